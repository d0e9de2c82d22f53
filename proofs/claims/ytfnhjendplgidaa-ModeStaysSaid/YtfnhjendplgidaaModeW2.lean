/- DERIVED. The walks over package mode that make rows: Clip, All, New. -/
import Derived.Test.YtfnhjendplgidaaModeW
namespace Go.Proofs.Ytfnhjendplgidaa.Md
open Go.RowKit Go.Proofs.Ytfnhjendplgidaa.K

theorem elInt : ElemOk Try.prog 22 3 1 8 := .mk' (z := .int .i64 0) Try.underlying22 (by kernel_rfl) rfl (by decide)
theorem elPart : ElemOk Try.prog 55 59 3 24 := .mk' (z := .agg #[.int .i64 0, .int .i64 0, .int .i64 0]) Try.underlying55 (by kernel_rfl) rfl (by decide)

theorem clip_nil (w : World) : Calls Try.prog 25 #[.slice none 0 0] w fun e w' => e = .returned (.slice none 0 0) ∧ w = w' := by
  go_enter Try.func25, Try.ntmps25
  go_wp2
  go_ret
  exact ⟨rfl, rfl⟩
theorem clip_some (w : World) (g n cap : Nat) (hn : n ≤ cap) (hc : cap ≤ maxLen) : Calls Try.prog 25 #[.slice (some ⟨g, 0, none⟩) n cap] w fun e w' => e = .returned (.slice (some ⟨g, 0, none⟩) n n) ∧ w = w' := by
  unfold maxLen at hc
  go_enter Try.func25, Try.ntmps25
  go_wp2
  go_ret
  exact ⟨rfl, rfl⟩

set_option maxHeartbeats 1000000 in
theorem all_c {w : World} {p a : Nat} {s : List Part} (h : ModesAt w p a s) : Calls Try.prog 11 #[.pointer (some ⟨p, 0, none⟩)] w fun e w' => ∃ v, e = .returned v ∧ IntsAt (fun b => w.heap.size ≤ b) w' v (s.map Part.m) ∧ Below w.heap.size w w' := by
  obtain ⟨cap, hh⟩ := h.head
  have hle := h.le
  go_enter Try.func11, Try.ntmps11
  go_wp2
  go_loopw [13, 3] (fun i v wr => ∃ k : Nat, k ≤ s.length ∧ i = .int .i64 k ∧ wr.ownsRow w.heap.size 3 1 v k (((s.map Part.m).take k).map (Value.int .i64)) ∧ Below w.heap.size w wr) (fun i _ _ => s.length - (intOf i).toNat)
  case atStart => exact ⟨0, Nat.zero_le _, rfl, World.ownsRow_nil _ _ _ _, Below.refl _ _⟩
  case round =>
    obtain ⟨k, hk, rfl, hown, hb⟩ := hrel
    by_cases hlt : k < s.length
    · obtain ⟨c0, c1, c2, f1, f2⟩ := (h.kept (hb.block p h.lt.1) (hb.block a h.lt.2)).cells hlt
      have hz := hb.size
      go_wp2_with (at_builtin; refine wpList_push rfl (.tmp 17) (.tmp 20) 22 rfl elInt rfl ((hown.alloc _).alloc _) ((hb.alloc hz _).alloc (by simp; omega) _) (Nat.le_refl _) (by simp; omega) (news := [.int .i64 s[k].m]) rfl rfl (heap_at _ _ _ (by simp)) (by simp [Value.oneCell']) (by unfold maxLen; omega) (by omega) ?_; intro v' w1 hown1 hb1 _ _)
      go_roundw
      case rel =>
        refine ⟨k + 1, by omega, by go_num, ?_, hb1⟩
        have e : ((s.map Part.m).take (k + 1)).map (Value.int .i64) = ((s.map Part.m).take k).map (Value.int .i64) ++ [.int .i64 s[k].m] := by
          rw [List.take_succ_eq_append_getElem (by simpa using hlt)]; simp
        rw [e]; exact hown1
      case measure => simp [intOf]; omega
    · obtain rfl : k = s.length := by omega
      rw [List.take_of_length_le (by simp)] at hown
      have hr := IntsAt.of_own hown
      rcases hown.2 with ⟨rfl, hn⟩ | ⟨g, cap', cur, rfl, hgb, hgh, hnc, hcm, hcs, htk⟩
      · have := h.pos; omega
      · go_wp2_with (go_at_call 25; refine (clip_some _ _ _ _ hnc hcm).mono ?_; rintro e w' ⟨rfl, rfl⟩)
        go_ret
        exact ⟨_, rfl, hr.clip (Nat.le_refl _) (by omega) (fun h => by cases h), hb⟩

theorem minTwo (a b : Int) (w : World) : (Builtin.min_ #[3, 3] 3 #[.int .i64 a, .int .i64 b]).run Try.prog w = .ok (.int .i64 (min a b)) w := by
  unfold Builtin.min_
  simp [Builtin.min2]
  split <;> (congr 2; omega)

def clampA (x : Int) : Int := if x < 0 ∨ 2 < x then 0 else x
def mk (x : Int) : Part := ⟨clampA x, 0, 0⟩
def newM (l : List Int) : List Part := if l.length = 0 then [⟨0, 0, 0⟩] else (l.take 4).map mk
theorem mk_wf (x : Int) : (mk x).wf := by unfold mk Part.wf clampA; refine ⟨?_, .inl rfl⟩; simp only; split <;> omega
def NewPost (w : World) (s : List Part) (e : Ending) (w' : World) : Prop :=
  ∃ p a, e = .returned (.pointer (some ⟨p, 0, none⟩)) ∧ ModesAt w' p a s ∧ w.heap.size ≤ p ∧ w.heap.size ≤ a ∧ Below w.heap.size w w'
set_option maxHeartbeats 1000000 in
theorem new_c {ok : Nat → Prop} {w : World} {v : Value} {l : List Int} (h : IntsAt ok w v l) : Calls Try.prog 8 #[v] w (NewPost w (newM l)) := by
  obtain ⟨ao, cap, rfl, ⟨hlc, hcm, hnc⟩, hx⟩ := h
  unfold maxLen at hcm
  have hmin := @minTwo
  have hmn : min (l.length : Int) 4 ≤ cap := by omega
  have hmz : 0 ≤ min (l.length : Int) 4 := by omega
  obtain ⟨n, hn⟩ : ∃ n, n = (l.take 4).length := ⟨_, rfl⟩
  have hnl : n = min l.length 4 := by rw [hn]; simp; omega
  have hN1 : (min (l.length : Int) 4).toNat = n := by omega
  have hN2 : max (min (l.length : Int) 4) 0 = (n : Int) := by omega
  have hnl' := hid hnl
  have hn' := hid hn
  clear hn hnl
  go_enter Try.func8, Try.ntmps8
  go_wp2
  go_loopw [14] (fun i wr => ∃ (k : Nat) (v : Value), k ≤ n ∧ i = .int .i64 k ∧ pts wr w.heap.size [v] 57 ∧ wr.ownsRow (w.heap.size + 1) 59 3 v k (flat enc (((l.take 4).take k).map mk)) ∧ Below w.heap.size w wr ∧ w.heap.size + 1 ≤ wr.heap.size) (fun i _ => n - (intOf i).toNat)
  case atStart => exact ⟨0, _, Nat.zero_le _, rfl, pts.new w [.slice none 0 0] 57, World.ownsRow_nil _ _ _ _, (Below.refl _ _).alloc (Nat.le_refl _) _, by simp⟩
  case round =>
    obtain ⟨k, v, hk, rfl, hp, hown, hb, hz⟩ := hrel
    have hp0 := hp.cell 0
    have hpf := hp.frozen 0
    have hplt := hp.lt
    simp only [List.getElem?_cons_zero] at hp0
    by_cases hlt : k < n
    · have hkl : k < l.length := by have := hnl'.out; omega
      rcases hx with hx | ⟨g, o, rfl, hg, hgs, hc⟩
      · subst hx; simp at hkl
      have hck : wr.cell? ⟨g, o + k, none⟩ = some (.int .i64 l[k]) := (hb.cell (p := ⟨g, o + k, none⟩) hgs).trans (hc k hkl)
      clear hc
      have ek : flat enc (((l.take 4).take (k + 1)).map mk) = flat enc (((l.take 4).take k).map mk) ++ enc (mk l[k]) := by
        rw [List.take_succ_eq_append_getElem (by rw [← hn'.out]; exact hlt), List.map_append, flat_append]; simp [flat_single]
      have fin : ∀ (w1 : World) (g' cap' : Nat), w1.ownsRow (w.heap.size + 1) 59 3 (.slice (some ⟨g', 0, none⟩) (k + 1) cap') (k + 1) (flat enc (((l.take 4).take k).map mk) ++ enc (mk l[k])) → Below w.heap.size w w1 → pts w1 w.heap.size [v] 57 → 
          ∃ (k' : Nat) (v' : Value), k' ≤ n ∧ Value.int .i64 ((k : Int) + 1) = .int .i64 k' ∧ pts (w1.setCell ⟨w.heap.size, 0, none⟩ (.slice (some ⟨g', 0, none⟩) (k + 1) cap')) w.heap.size [v'] 57 ∧ (w1.setCell ⟨w.heap.size, 0, none⟩ (.slice (some ⟨g', 0, none⟩) (k + 1) cap')).ownsRow (w.heap.size + 1) 59 3 v' k' (flat enc (((l.take 4).take k').map mk)) ∧ Below w.heap.size w (w1.setCell ⟨w.heap.size, 0, none⟩ (.slice (some ⟨g', 0, none⟩) (k + 1) cap')) ∧ w.heap.size + 1 ≤ (w1.setCell ⟨w.heap.size, 0, none⟩ (.slice (some ⟨g', 0, none⟩) (k + 1) cap')).heap.size := by
        intro w1 g' cap' ho hb1 hp1
        refine ⟨k + 1, .slice (some ⟨g', 0, none⟩) (k + 1) cap', by omega, by simp, by simpa using hp1.set 0 (.slice (some ⟨g', 0, none⟩) (k + 1) cap'), ?_, hb1.setCell (Nat.le_refl _) _, by have := hp1.lt; simp; omega⟩
        rw [ek]; exact ownsRow_setCell_below ho (by simp) _
      have fin' := hid fin
      have ek' := hid ek
      clear fin ek
      by_cases h0 : l[k] < 0
      · have hmk : mk l[k] = ⟨0, 0, 0⟩ := by simp [mk, clampA, h0]
        rw [hmk] at fin'
        clear hmk
        go_wp2_with (at_builtin; refine wpList_push rfl (.tmp 28) (.tmp 31) 55 rfl elPart rfl (hown.alloc _) (hb.alloc (by omega) _) (Nat.le_succ _) (by simp; omega) (news := [.int .i64 (0), .int .i64 0, .int .i64 0]) rfl rfl (heap_at _ _ _ (by simp)) (by simp [Value.oneCell']) (by unfold maxLen; omega) (by omega) ?_; intro v' w1 hown1 hb1 hg1 _; obtain ⟨g', cap', ex', rfl, _⟩ := own_split hown1 (by omega); have hp1 := (hp.alloc _).grown hg1 (hown.alloc _) (by omega); have k0 := hp1.cell 0; have kf := hp1.frozen 0; simp only [List.getElem?_cons_zero] at k0)
        go_roundw
        case rel => exact fin'.out _ _ _ hown1 hb1 hp1
        case measure => simp [intOf]; omega
      · by_cases h2 : 2 < l[k]
        · have hmk : mk l[k] = ⟨0, 0, 0⟩ := by simp [mk, clampA, h2]
          rw [hmk] at fin'
          clear hmk
          go_wp2_with (at_builtin; refine wpList_push rfl (.tmp 28) (.tmp 31) 55 rfl elPart rfl (hown.alloc _) (hb.alloc (by omega) _) (Nat.le_succ _) (by simp; omega) (news := [.int .i64 (0), .int .i64 0, .int .i64 0]) rfl rfl (heap_at _ _ _ (by simp)) (by simp [Value.oneCell']) (by unfold maxLen; omega) (by omega) ?_; intro v' w1 hown1 hb1 hg1 _; obtain ⟨g', cap', ex', rfl, _⟩ := own_split hown1 (by omega); have hp1 := (hp.alloc _).grown hg1 (hown.alloc _) (by omega); have k0 := hp1.cell 0; have kf := hp1.frozen 0; simp only [List.getElem?_cons_zero] at k0)
          go_roundw
          case rel => exact fin'.out _ _ _ hown1 hb1 hp1
          case measure => simp [intOf]; omega
        · have hmk : mk l[k] = ⟨l[k], 0, 0⟩ := by simp [mk, clampA, h0, h2]
          rw [hmk] at fin'
          clear hmk
          go_wp2_with (at_builtin; refine wpList_push rfl (.tmp 28) (.tmp 31) 55 rfl elPart rfl (hown.alloc _) (hb.alloc (by omega) _) (Nat.le_succ _) (by simp; omega) (news := [.int .i64 (l[k]), .int .i64 0, .int .i64 0]) rfl rfl (heap_at _ _ _ (by simp)) (by simp [Value.oneCell']) (by unfold maxLen; omega) (by omega) ?_; intro v' w1 hown1 hb1 hg1 _; obtain ⟨g', cap', ex', rfl, _⟩ := own_split hown1 (by omega); have hp1 := (hp.alloc _).grown hg1 (hown.alloc _) (by omega); have k0 := hp1.cell 0; have kf := hp1.frozen 0; simp only [List.getElem?_cons_zero] at k0)
          go_roundw
          case rel => exact fin'.out _ _ _ hown1 hb1 hp1
          case measure => simp [intOf]; omega
    · obtain rfl : k = n := by omega
      have htk : (l.take 4).take k = l.take 4 := List.take_of_length_le (by rw [← hn'.out]; exact Nat.le_refl _)
      rw [htk] at hown
      clear htk
      by_cases hk0 : k = 0
      · have hl0 : l.length = 0 := by have := hnl'.out; omega
        have hnew := hid (show newM l = [⟨0, 0, 0⟩] by simp [newM, hl0])
        obtain ⟨rfl, _⟩ | ⟨g, cap', cur, rfl, _, _, hnc', hcm', hcs', ht'⟩ := hown.2
        · clear hnl' hn' hl0 hx hmn hmz hlc hnc hk hlt hown
          subst hk0
          have hmk : ∀ w, (Instr.makeSlice 55 (.int .i64 1) (.int .i64 1)).run Try.prog w = .ok (.slice (some ⟨w.heap.size, 0, none⟩) 1 1) (w.alloc (.cells #[.int .i64 0, .int .i64 0, .int .i64 0] 59)) := fun _ => by kernel_rfl
          go_wp2
          go_ret
          refine ⟨w.heap.size, wr.heap.size, rfl, ?_, Nat.le_refl _, by omega, (hb.setCell (Nat.le_refl _) _).alloc (by simp; omega) _⟩
          rw [hnew.out]
          exact ⟨⟨[], 1, (hp.set 0 (.slice (some ⟨wr.heap.size, 0, none⟩) 1 1)).alloc _, heap_at _ _ _ (by simp)⟩, by omega, by simp, by simp, fun x hx => by simp at hx; subst hx; exact mk_wf 0⟩
        · clear hnl' hn' hl0 hx hmn hmz hlc hnc hk hlt hown
          subst hk0
          have hmk : ∀ w, (Instr.makeSlice 55 (.int .i64 1) (.int .i64 1)).run Try.prog w = .ok (.slice (some ⟨w.heap.size, 0, none⟩) 1 1) (w.alloc (.cells #[.int .i64 0, .int .i64 0, .int .i64 0] 59)) := fun _ => by kernel_rfl
          go_wp2
          go_ret
          refine ⟨w.heap.size, wr.heap.size, rfl, ?_, Nat.le_refl _, by omega, (hb.setCell (Nat.le_refl _) _).alloc (by simp; omega) _⟩
          rw [hnew.out]
          exact ⟨⟨[], 1, (hp.set 0 (.slice (some ⟨wr.heap.size, 0, none⟩) 1 1)).alloc _, heap_at _ _ _ (by simp)⟩, by omega, by simp, by simp, fun x hx => by simp at hx; subst hx; exact mk_wf 0⟩
      · obtain ⟨g, cap', ex', rfl, hgb, hpg, _⟩ := own_split hown (by omega)
        have hk0' : (k == 0) = false := by simpa using hk0
        have hk1' : ((k : Int) == 0) = false := by simp; omega
        have hlen : ((l.take 4).map mk).length = k := by simp; have := hnl'.out; omega
        have hnew := hid (show newM l = (l.take 4).map mk by unfold newM; rw [if_neg (by have := hnl'.out; omega)])
        have hlen' := hid hlen
        clear hlen
        go_wp2
        go_ret
        refine ⟨w.heap.size, g, rfl, ?_, Nat.le_refl _, by omega, hb⟩
        rw [hnew.out]
        have hl := hlen'.out
        exact ⟨⟨ex', cap', by rw [hl]; exact hp, hpg⟩, by omega, by rw [hl]; have := hnl'.out; omega, by rw [hl]; omega, fun x hx => by obtain ⟨y, _, rfl⟩ := List.mem_map.1 hx; exact mk_wf y⟩
end Go.Proofs.Ytfnhjendplgidaa.Md
