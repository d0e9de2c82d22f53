/- DERIVED. The walk over the reference's New of modes. -/
import Derived.Test.YtfnhjendplgidaaRefMode
import Derived.Deep.DeepCutAuto
import Derived.Deep.CutBlock
namespace Go.Proofs.Ytfnhjendplgidaa.Rm
open Go.RowKit Go.Proofs.Ytfnhjendplgidaa.K Go.Proofs.Ytfnhjendplgidaa.Md

def RNewPost (w : World) (s : List Part) (e : Ending) (w' : World) : Prop :=
  ∃ v', e = .returned v' ∧ RefAt (fun b => w.heap.size ≤ b) w' v' s ∧ Below w.heap.size w w'
theorem mk1 : ∀ w : World, (Instr.makeSlice 22 (.int .i64 1) (.int .i64 1)).run Try.prog w = .ok (.slice (some ⟨w.heap.size, 0, none⟩) 1 1) (w.alloc (.cells #[.int .i64 0] 3)) := fun _ => by kernel_rfl
theorem mk2 : ∀ w : World, (Instr.makeSlice 22 (.int .i64 2) (.int .i64 2)).run Try.prog w = .ok (.slice (some ⟨w.heap.size, 0, none⟩) 2 2) (w.alloc (.cells #[.int .i64 0, .int .i64 0] 3)) := fun _ => by kernel_rfl
theorem mk3 : ∀ w : World, (Instr.makeSlice 22 (.int .i64 3) (.int .i64 3)).run Try.prog w = .ok (.slice (some ⟨w.heap.size, 0, none⟩) 3 3) (w.alloc (.cells #[.int .i64 0, .int .i64 0, .int .i64 0] 3)) := fun _ => by kernel_rfl
theorem mk4 : ∀ w : World, (Instr.makeSlice 22 (.int .i64 4) (.int .i64 4)).run Try.prog w = .ok (.slice (some ⟨w.heap.size, 0, none⟩) 4 4) (w.alloc (.cells #[.int .i64 0, .int .i64 0, .int .i64 0, .int .i64 0] 3)) := fun _ => by kernel_rfl
theorem fin_new {w W5 : World} {g cap' k N : Nat} {ex' : List Value} {s : List Part} {Z : Array Value} (hb : Below w.heap.size w W5) (hg : w.heap.size ≤ g) (hN : N = W5.heap.size) (hpg : pts W5 g ((s.map Part.a).map (Value.int .i64) ++ ex') 3) (hk : s.length = k) (hkc : k ≤ cap') (hcm : cap' ≤ maxLen) (hk4 : k ≤ 4)
    (hm : s.map Part.m = List.replicate k 0) (hs : s.map Part.s = List.replicate k 0) (hZ : Z.toList = (List.replicate k (0 : Int)).map (Value.int .i64)) :
    RefAt (fun b => w.heap.size ≤ b) ((W5.alloc (.cells Z 3)).alloc (.cells Z 3)) (.agg #[.slice (some ⟨g, 0, none⟩) k cap', .slice (some ⟨N, 0, none⟩) k k, .slice (some ⟨N + 1, 0, none⟩) k k]) s ∧ Below w.heap.size w ((W5.alloc (.cells Z 3)).alloc (.cells Z 3)) := by
  have hz := hb.size
  have hkm : k ≤ maxLen := by unfold maxLen; omega
  have p1 : pts ((W5.alloc (.cells Z 3)).alloc (.cells Z 3)) N ((List.replicate k (0 : Int)).map (Value.int .i64) ++ []) 3 := by
    rw [hN, List.append_nil, ← hZ]; exact (pts.newA W5 Z 3).alloc _
  have p2 : pts ((W5.alloc (.cells Z 3)).alloc (.cells Z 3)) (N + 1) ((List.replicate k (0 : Int)).map (Value.int .i64) ++ []) 3 := by
    rw [hN, List.append_nil, ← hZ, show W5.heap.size + 1 = (W5.alloc (.cells Z 3)).heap.size by simp]; exact pts.newA _ Z 3
  refine ⟨⟨_, _, _, rfl, ?_, ?_, ?_⟩, (hb.alloc hz _).alloc (by simp; omega) _⟩
  · have h := IntsAt.of_pts (ok := fun b => w.heap.size ≤ b) (cap := cap') ((hpg.alloc (.cells Z 3)).alloc (.cells Z 3)) hg (by simp; omega) hcm
    simpa [hk] using h
  · rw [hm]
    have h := IntsAt.of_pts (ok := fun b => w.heap.size ≤ b) (cap := k) p1 (by omega) (by simp) hkm
    simpa using h
  · rw [hs]
    have h := IntsAt.of_pts (ok := fun b => w.heap.size ≤ b) (cap := k) p2 (by omega) (by simp) hkm
    simpa using h
theorem map_mk_m (l : List Int) : (l.map mk).map Part.m = List.replicate l.length 0 := by induction l with | nil => rfl | cons x l ih => simp only [List.map_cons, ih, List.length_cons, List.replicate_succ]; rfl
theorem map_mk_s (l : List Int) : (l.map mk).map Part.s = List.replicate l.length 0 := by induction l with | nil => rfl | cons x l ih => simp only [List.map_cons, ih, List.length_cons, List.replicate_succ]; rfl
theorem map_mk_a (l : List Int) : (l.map mk).map Part.a = l.map clampA := by simp [mk]
theorem newM_of {l : List Int} {k : Nat} (hk : k ≤ l.length) (h4 : k ≤ 4) (hor : k = 4 ∨ k = l.length) (h0 : 0 < k) : newM l = (l.take k).map mk := by
  unfold newM; rw [if_neg (by omega)]
  rcases hor with rfl | rfl
  · rfl
  · rw [List.take_of_length_le (show l.length ≤ 4 by omega), List.take_of_length_le (Nat.le_refl _)]
theorem fin_s {w wr : World} {g cap' k : Nat} {ex' : List Value} {s : List Part} {Z : Array Value} (hk4 : k ≤ 4) (hb : Below w.heap.size w wr) (hz : w.heap.size + 1 < wr.heap.size) (hgb : w.heap.size + 2 ≤ g)
    (hpg : pts wr g ((s.map Part.a).map (Value.int .i64) ++ ex') 3) (hk : s.length = k) (hnc : k ≤ cap') (hcm : cap' ≤ maxLen) (hm : s.map Part.m = List.replicate k 0) (hs : s.map Part.s = List.replicate k 0) (hZ : Z.toList = (List.replicate k (0 : Int)).map (Value.int .i64)) :
    RNewPost w s (.returned (.agg #[.slice (some ⟨g, 0, none⟩) k cap', .slice (some ⟨wr.heap.size, 0, none⟩) k k, .slice (some ⟨wr.heap.size + 1, 0, none⟩) k k]))
      (((((((wr.setCell ⟨w.heap.size + 1, 1, none⟩ (.slice (some ⟨wr.heap.size, 0, none⟩) k k)).setCell ⟨w.heap.size + 1, 2, none⟩ (.slice (some ⟨wr.heap.size + 1, 0, none⟩) k k)).setCell ⟨w.heap.size, 0, none⟩ (.slice (some ⟨g, 0, none⟩) k cap')).setCell ⟨w.heap.size, 1, none⟩ (.slice (some ⟨wr.heap.size, 0, none⟩) k k)).setCell ⟨w.heap.size, 2, none⟩ (.slice (some ⟨wr.heap.size + 1, 0, none⟩) k k)).alloc (.cells Z 3)).alloc (.cells Z 3)) := by
  have n1 : g ≠ w.heap.size + 1 := by omega
  have n0 : g ≠ w.heap.size := by omega
  obtain ⟨hR, hB⟩ := fin_new (k := k) (s := s) (Z := Z) (N := wr.heap.size) (g := g) (cap' := cap') (ex' := ex') (((((hb.setCell (p := ⟨w.heap.size + 1, 1, none⟩) (by simp) (.slice (some ⟨wr.heap.size, 0, none⟩) k k)).setCell (p := ⟨w.heap.size + 1, 2, none⟩) (by simp) (.slice (some ⟨wr.heap.size + 1, 0, none⟩) k k)).setCell (p := ⟨w.heap.size, 0, none⟩) (by simp) (.slice (some ⟨g, 0, none⟩) k cap')).setCell (p := ⟨w.heap.size, 1, none⟩) (by simp) (.slice (some ⟨wr.heap.size, 0, none⟩) k k)).setCell (p := ⟨w.heap.size, 2, none⟩) (by simp) (.slice (some ⟨wr.heap.size + 1, 0, none⟩) k k)) (by omega) (by simp)
    (((((hpg.set_ne (a := ⟨w.heap.size + 1, 1, none⟩) n1 _).set_ne (a := ⟨w.heap.size + 1, 2, none⟩) n1 _).set_ne (a := ⟨w.heap.size, 0, none⟩) n0 _).set_ne (a := ⟨w.heap.size, 1, none⟩) n0 _).set_ne (a := ⟨w.heap.size, 2, none⟩) n0 _)
    hk hnc hcm hk4 hm hs hZ
  exact ⟨_, rfl, hR, hB⟩
theorem fin_all {w wr : World} {g cap' k : Nat} {ex' : List Value} {l : List Int} {Z : Array Value} (hnew : newM l = (l.take k).map mk) (hkl : k ≤ l.length) (hk4 : k ≤ 4) (hb : Below w.heap.size w wr) (hz : w.heap.size + 1 < wr.heap.size) (hgb : w.heap.size + 2 ≤ g)
    (hpg : pts wr g (((l.take k).map clampA).map (Value.int .i64) ++ ex') 3) (hnc : k ≤ cap') (hcm : cap' ≤ maxLen) (hZ : Z.toList = (List.replicate k (0 : Int)).map (Value.int .i64)) :
    RNewPost w (newM l) (.returned (.agg #[.slice (some ⟨g, 0, none⟩) k cap', .slice (some ⟨wr.heap.size, 0, none⟩) k k, .slice (some ⟨wr.heap.size + 1, 0, none⟩) k k]))
      (((((((wr.setCell ⟨w.heap.size + 1, 1, none⟩ (.slice (some ⟨wr.heap.size, 0, none⟩) k k)).setCell ⟨w.heap.size + 1, 2, none⟩ (.slice (some ⟨wr.heap.size + 1, 0, none⟩) k k)).setCell ⟨w.heap.size, 0, none⟩ (.slice (some ⟨g, 0, none⟩) k cap')).setCell ⟨w.heap.size, 1, none⟩ (.slice (some ⟨wr.heap.size, 0, none⟩) k k)).setCell ⟨w.heap.size, 2, none⟩ (.slice (some ⟨wr.heap.size + 1, 0, none⟩) k k)).alloc (.cells Z 3)).alloc (.cells Z 3)) := by
  have hlen : (l.take k).length = k := by simp; omega
  exact fin_s hk4 hb hz hgb (by rw [hnew, map_mk_a]; exact hpg) (by rw [hnew]; simp; omega) hnc hcm (by rw [hnew, map_mk_m, hlen]) (by rw [hnew, map_mk_s, hlen]) hZ
set_option maxHeartbeats 2000000 in
theorem new_c {ok : Nat → Prop} {w : World} {v : Value} {l : List Int} (h : IntsAt ok w v l) : Calls Try.prog 13 #[v] w (RNewPost w (newM l)) := by
  obtain ⟨ao, cap, rfl, ⟨hlc, hcm, hnc⟩, hx⟩ := h
  clear hcm hlc hnc
  go_enter Try.func13, Try.ntmps13
  go_wp2
  go_loopw [4] (fun i wr => ∃ (k : Nat) (v : Value), k ≤ l.length ∧ k ≤ 4 ∧ i = .int .i64 k ∧ pts wr w.heap.size [.slice none 0 0, .slice none 0 0, .slice none 0 0] 37 ∧ pts wr (w.heap.size + 1) [v, .slice none 0 0, .slice none 0 0] 37 ∧ wr.ownsRow (w.heap.size + 2) 3 1 v k (((l.take k).map clampA).map (Value.int .i64)) ∧ Below w.heap.size w wr) (fun i _ => 4 - (intOf i).toNat)
  case atStart => exact ⟨0, _, Nat.zero_le _, by omega, rfl, (pts.new w [.slice none 0 0, .slice none 0 0, .slice none 0 0] 37).alloc _, by simpa using pts.new (w.alloc (.cells #[.slice none 0 0, .slice none 0 0, .slice none 0 0] 37)) [.slice none 0 0, .slice none 0 0, .slice none 0 0] 37, World.ownsRow_nil _ _ _ _, ((Below.refl _ _).alloc (Nat.le_refl _) _).alloc (by simp) _⟩
  case round =>
    obtain ⟨k, v, hk, hk4, rfl, hp0, hp, hown, hb⟩ := hrel
    have hc0 := hp.cell 0
    have hc1 := hp.cell 1
    have hc2 := hp.cell 2
    have hpf0 := hp.frozen 0
    have hpf1 := hp.frozen 1
    have hpf2 := hp.frozen 2
    have hplt := hp.lt
    have hd0 := hp0.cell 0
    have hd1 := hp0.cell 1
    have hd2 := hp0.cell 2
    have hdf0 := hp0.frozen 0
    have hdf1 := hp0.frozen 1
    have hdf2 := hp0.frozen 2
    have hdlt := hp0.lt
    simp only [List.getElem?_cons_zero, List.getElem?_cons_succ] at hc0 hc1 hc2 hd0 hd1 hd2
    by_cases hlt : k < l.length
    · by_cases hlt4 : k < 4
      · rcases hx with hx | ⟨g, o, rfl, hg, hgs, hc⟩
        · subst hx; simp at hlt
        have hck : wr.cell? ⟨g, o + k, none⟩ = some (.int .i64 l[k]) := (hb.cell (p := ⟨g, o + k, none⟩) hgs).trans (hc k hlt)
        clear hc
        have ek : ((l.take (k + 1)).map clampA).map (Value.int .i64) = ((l.take k).map clampA).map (Value.int .i64) ++ [.int .i64 (clampA l[k])] := by
          rw [List.take_succ_eq_append_getElem hlt, List.map_append, List.map_append]; rfl
        have fin : ∀ (w1 : World) (g' cap' : Nat), w1.ownsRow (w.heap.size + 2) 3 1 (.slice (some ⟨g', 0, none⟩) (k + 1) cap') (k + 1) (((l.take k).map clampA).map (Value.int .i64) ++ [.int .i64 (clampA l[k])]) → Below w.heap.size w w1 → pts w1 w.heap.size [.slice none 0 0, .slice none 0 0, .slice none 0 0] 37 → pts w1 (w.heap.size + 1) [v, .slice none 0 0, .slice none 0 0] 37 →
            ∃ (k' : Nat) (v' : Value), k' ≤ l.length ∧ k' ≤ 4 ∧ Value.int .i64 ((k : Int) + 1) = .int .i64 k' ∧ pts (w1.setCell ⟨w.heap.size + 1, 0, none⟩ (.slice (some ⟨g', 0, none⟩) (k + 1) cap')) w.heap.size [.slice none 0 0, .slice none 0 0, .slice none 0 0] 37 ∧ pts (w1.setCell ⟨w.heap.size + 1, 0, none⟩ (.slice (some ⟨g', 0, none⟩) (k + 1) cap')) (w.heap.size + 1) [v', .slice none 0 0, .slice none 0 0] 37 ∧ (w1.setCell ⟨w.heap.size + 1, 0, none⟩ (.slice (some ⟨g', 0, none⟩) (k + 1) cap')).ownsRow (w.heap.size + 2) 3 1 v' k' (((l.take k').map clampA).map (Value.int .i64)) ∧ Below w.heap.size w (w1.setCell ⟨w.heap.size + 1, 0, none⟩ (.slice (some ⟨g', 0, none⟩) (k + 1) cap')) := by
          intro w1 g' cap' ho hb1 hp1 hp2
          refine ⟨k + 1, .slice (some ⟨g', 0, none⟩) (k + 1) cap', by omega, by omega, by simp, hp1.set_ne (by simp) _, by simpa using hp2.set 0 (.slice (some ⟨g', 0, none⟩) (k + 1) cap'), ?_, hb1.setCell (by simp) _⟩
          rw [ek]; exact ownsRow_setCell_below ho (by simp) _
        have fin' := hid fin
        clear fin ek
        by_cases h0 : l[k] < 0
        · have hmk : clampA l[k] = 0 := (by simp [clampA, h0])
          rw [hmk] at fin'
          clear hmk
          go_wp2_with (at_builtin; refine wpList_push rfl (.tmp 27) (.tmp 29) 22 rfl elInt rfl (hown.alloc _) (hb.alloc (by omega) _) (Nat.le_add_right _ 2) (by simp; omega) (news := [.int .i64 (0)]) rfl rfl (heap_at _ _ _ (by simp)) (by simp [Value.oneCell']) (by unfold maxLen; omega) (by omega) ?_; intro v' w1 hown1 hb1 hg1 _; obtain ⟨g', cap', ex', rfl, _⟩ := own_split hown1 (by omega); have hq0 := (hp0.alloc _).grown hg1 (hown.alloc _) (by omega); have hq := (hp.alloc _).grown hg1 (hown.alloc _) (by omega); have k0 := hq.cell 0; have kf := hq.frozen 0; simp only [List.getElem?_cons_zero] at k0)
          go_roundw
          case rel => exact fin'.out _ _ _ hown1 hb1 hq0 hq
          case measure => simp [intOf]; omega
        · by_cases h2 : 2 < l[k]
          · have hmk : clampA l[k] = 0 := (by simp [clampA, h2])
            rw [hmk] at fin'
            clear hmk
            go_wp2_with (at_builtin; refine wpList_push rfl (.tmp 27) (.tmp 29) 22 rfl elInt rfl (hown.alloc _) (hb.alloc (by omega) _) (Nat.le_add_right _ 2) (by simp; omega) (news := [.int .i64 (0)]) rfl rfl (heap_at _ _ _ (by simp)) (by simp [Value.oneCell']) (by unfold maxLen; omega) (by omega) ?_; intro v' w1 hown1 hb1 hg1 _; obtain ⟨g', cap', ex', rfl, _⟩ := own_split hown1 (by omega); have hq0 := (hp0.alloc _).grown hg1 (hown.alloc _) (by omega); have hq := (hp.alloc _).grown hg1 (hown.alloc _) (by omega); have k0 := hq.cell 0; have kf := hq.frozen 0; simp only [List.getElem?_cons_zero] at k0)
            go_roundw
            case rel => exact fin'.out _ _ _ hown1 hb1 hq0 hq
            case measure => simp [intOf]; omega
          · have hmk : clampA l[k] = l[k] := (by simp [clampA, h0, h2])
            rw [hmk] at fin'
            clear hmk
            go_wp2_with (at_builtin; refine wpList_push rfl (.tmp 27) (.tmp 29) 22 rfl elInt rfl (hown.alloc _) (hb.alloc (by omega) _) (Nat.le_add_right _ 2) (by simp; omega) (news := [.int .i64 (l[k])]) rfl rfl (heap_at _ _ _ (by simp)) (by simp [Value.oneCell']) (by unfold maxLen; omega) (by omega) ?_; intro v' w1 hown1 hb1 hg1 _; obtain ⟨g', cap', ex', rfl, _⟩ := own_split hown1 (by omega); have hq0 := (hp0.alloc _).grown hg1 (hown.alloc _) (by omega); have hq := (hp.alloc _).grown hg1 (hown.alloc _) (by omega); have k0 := hq.cell 0; have kf := hq.frozen 0; simp only [List.getElem?_cons_zero] at k0)
            go_roundw
            case rel => exact fin'.out _ _ _ hown1 hb1 hq0 hq
            case measure => simp [intOf]; omega
      · obtain rfl : k = 4 := by omega
        obtain ⟨g, cap', ex', rfl, hgb, hpg, hnc', hcm'⟩ := own_split hown (by omega)
        have hmk := mk4
        clear hx hown
        have hnew := hid (newM_of hk hk4 (.inl rfl) (by omega))
        go_wp2
        refine bodyPost_ret (v := .agg #[.slice (some ⟨g, 0, none⟩) 4 cap', .slice (some ⟨wr.heap.size, 0, none⟩) 4 4, .slice (some ⟨wr.heap.size + 1, 0, none⟩) 4 4]) ?_ rfl ?_
        · simp [results, Try.results13, go_sem, hd0, hd1, hd2, hc0, hc1, hc2, hdlt, hplt]
        · exact fin_all hnew.out hk (by omega) hb hplt hgb hpg hnc' hcm' rfl
    · have hkl : k = l.length := by omega
      by_cases hk0 : k = 0
      · subst hk0
        have hl0 := hid hkl
        have hnew := hid (show newM l = [⟨0, 0, 0⟩] by unfold newM; rw [if_pos hkl.symm])
        obtain rfl : l = [] := List.eq_nil_of_length_eq_zero hkl.symm
        obtain ⟨rfl, _⟩ | ⟨g, cap', cur, rfl, hgb, hgh, hnc', hcm', hcs', ht'⟩ := hown.2
        · have hmk := mk1
          clear hx hown hkl hk hlt hk4
          have hsz : w.heap.size + 1 < wr.heap.size := hplt
          have q0 := (hp0.set_ne (a := ⟨w.heap.size + 1, 0, none⟩) (by simp) (.slice (some ⟨wr.heap.size, 0, none⟩) 1 1)).alloc (.cells #[.int .i64 0] 3)
          have q1 := (hp.set 0 (.slice (some ⟨wr.heap.size, 0, none⟩) 1 1)).alloc (.cells #[.int .i64 0] 3)
          have q2 : pts ((wr.setCell ⟨w.heap.size + 1, 0, none⟩ (.slice (some ⟨wr.heap.size, 0, none⟩) 1 1)).alloc (.cells #[.int .i64 0] 3)) wr.heap.size [.int .i64 0] 3 := heap_at _ _ _ (by simp)
          have qb := (hb.setCell (p := ⟨w.heap.size + 1, 0, none⟩) (by simp) (.slice (some ⟨wr.heap.size, 0, none⟩) 1 1)).alloc (by simp; omega) (.cells #[.int .i64 0] 3)
          have qz : w.heap.size + 1 < ((wr.setCell ⟨w.heap.size + 1, 0, none⟩ (.slice (some ⟨wr.heap.size, 0, none⟩) 1 1)).alloc (.cells #[.int .i64 0] 3)).heap.size := by simp; omega
          simp only [List.set_cons_zero] at q1
          obtain ⟨G, hG⟩ : ∃ G, G = wr.heap.size := ⟨_, rfl⟩
          rw [← hG] at hsz
          have hG2 : w.heap.size + 2 ≤ G := by omega
          go_upto_region 11 with (fail)
          rw [← hG] at q0 q1 q2 qb qz ⊢
          clear hc0 hc1 hc2 hd0 hd1 hd2 hpf0 hpf1 hpf2 hdf0 hdf1 hdf2 hplt hdlt hp0 hp hb hG
          generalize ((wr.setCell ⟨w.heap.size + 1, 0, none⟩ (.slice (some ⟨G, 0, none⟩) 1 1)).alloc (.cells #[.int .i64 0] 3)) = W5 at q0 q1 q2 qb qz ⊢
          have hc0 := q1.cell 0
          have hc1 := q1.cell 1
          have hc2 := q1.cell 2
          have hpf0 := q1.frozen 0
          have hpf1 := q1.frozen 1
          have hpf2 := q1.frozen 2
          have hd0 := q0.cell 0
          have hd1 := q0.cell 1
          have hd2 := q0.cell 2
          have hdf0 := q0.frozen 0
          have hdf1 := q0.frozen 1
          have hdf2 := q0.frozen 2
          have hdlt : w.heap.size < W5.heap.size := by omega
          have hplt := qz
          simp only [List.getElem?_cons_zero, List.getElem?_cons_succ] at hc0 hc1 hc2 hd0 hd1 hd2
          go_wp2
          refine bodyPost_ret (v := .agg #[.slice (some ⟨G, 0, none⟩) 1 1, .slice (some ⟨W5.heap.size, 0, none⟩) 1 1, .slice (some ⟨W5.heap.size + 1, 0, none⟩) 1 1]) ?_ rfl ?_
          · simp [results, Try.results13, go_sem, hd0, hd1, hd2, hc0, hc1, hc2, hdlt, hplt]
          · rw [hnew.out]; exact fin_s (ex' := []) (by omega) qb qz hG2 q2 rfl (by omega) (by unfold maxLen; omega) rfl rfl rfl
        · have hmk := mk1
          clear hx hown hkl hk hlt hk4 hgh hcs' ht'
          have hsz : w.heap.size + 1 < wr.heap.size := hplt
          have q0 := (hp0.set_ne (a := ⟨w.heap.size + 1, 0, none⟩) (by simp) (.slice (some ⟨wr.heap.size, 0, none⟩) 1 1)).alloc (.cells #[.int .i64 0] 3)
          have q1 := (hp.set 0 (.slice (some ⟨wr.heap.size, 0, none⟩) 1 1)).alloc (.cells #[.int .i64 0] 3)
          have q2 : pts ((wr.setCell ⟨w.heap.size + 1, 0, none⟩ (.slice (some ⟨wr.heap.size, 0, none⟩) 1 1)).alloc (.cells #[.int .i64 0] 3)) wr.heap.size [.int .i64 0] 3 := heap_at _ _ _ (by simp)
          have qb := (hb.setCell (p := ⟨w.heap.size + 1, 0, none⟩) (by simp) (.slice (some ⟨wr.heap.size, 0, none⟩) 1 1)).alloc (by simp; omega) (.cells #[.int .i64 0] 3)
          have qz : w.heap.size + 1 < ((wr.setCell ⟨w.heap.size + 1, 0, none⟩ (.slice (some ⟨wr.heap.size, 0, none⟩) 1 1)).alloc (.cells #[.int .i64 0] 3)).heap.size := by simp; omega
          simp only [List.set_cons_zero] at q1
          obtain ⟨G, hG⟩ : ∃ G, G = wr.heap.size := ⟨_, rfl⟩
          rw [← hG] at hsz
          have hG2 : w.heap.size + 2 ≤ G := by omega
          go_upto_region 11 with (fail)
          rw [← hG] at q0 q1 q2 qb qz ⊢
          clear hc0 hc1 hc2 hd0 hd1 hd2 hpf0 hpf1 hpf2 hdf0 hdf1 hdf2 hplt hdlt hp0 hp hb hG
          generalize ((wr.setCell ⟨w.heap.size + 1, 0, none⟩ (.slice (some ⟨G, 0, none⟩) 1 1)).alloc (.cells #[.int .i64 0] 3)) = W5 at q0 q1 q2 qb qz ⊢
          have hc0 := q1.cell 0
          have hc1 := q1.cell 1
          have hc2 := q1.cell 2
          have hpf0 := q1.frozen 0
          have hpf1 := q1.frozen 1
          have hpf2 := q1.frozen 2
          have hd0 := q0.cell 0
          have hd1 := q0.cell 1
          have hd2 := q0.cell 2
          have hdf0 := q0.frozen 0
          have hdf1 := q0.frozen 1
          have hdf2 := q0.frozen 2
          have hdlt : w.heap.size < W5.heap.size := by omega
          have hplt := qz
          simp only [List.getElem?_cons_zero, List.getElem?_cons_succ] at hc0 hc1 hc2 hd0 hd1 hd2
          go_wp2
          refine bodyPost_ret (v := .agg #[.slice (some ⟨G, 0, none⟩) 1 1, .slice (some ⟨W5.heap.size, 0, none⟩) 1 1, .slice (some ⟨W5.heap.size + 1, 0, none⟩) 1 1]) ?_ rfl ?_
          · simp [results, Try.results13, go_sem, hd0, hd1, hd2, hc0, hc1, hc2, hdlt, hplt]
          · rw [hnew.out]; exact fin_s (ex' := []) (by omega) qb qz hG2 q2 rfl (by omega) (by unfold maxLen; omega) rfl rfl rfl
      · rcases (show k = 1 ∨ k = 2 ∨ k = 3 ∨ k = 4 by omega) with h1 | h1 | h1 | h1
        · subst h1
          obtain ⟨g, cap', ex', rfl, hgb, hpg, hnc', hcm'⟩ := own_split hown (by omega)
          have hmk := mk1
          clear hx hown
          have hkl' := hid hkl
          have hnew := hid (newM_of hk hk4 (.inr hkl) (by omega))
          have hge : ¬ 1 < l.length := by omega
          clear hkl hk hlt
          go_wp2
          refine bodyPost_ret (v := .agg #[.slice (some ⟨g, 0, none⟩) 1 cap', .slice (some ⟨wr.heap.size, 0, none⟩) 1 1, .slice (some ⟨wr.heap.size + 1, 0, none⟩) 1 1]) ?_ rfl ?_
          · simp [results, Try.results13, go_sem, hd0, hd1, hd2, hc0, hc1, hc2, hdlt, hplt]
          · exact fin_all hnew.out (Nat.le_of_eq hkl'.out) (by omega) hb hplt hgb hpg hnc' hcm' rfl
        · subst h1
          obtain ⟨g, cap', ex', rfl, hgb, hpg, hnc', hcm'⟩ := own_split hown (by omega)
          have hmk := mk2
          clear hx hown
          have hkl' := hid hkl
          have hnew := hid (newM_of hk hk4 (.inr hkl) (by omega))
          have hge : ¬ 2 < l.length := by omega
          clear hkl hk hlt
          go_wp2
          refine bodyPost_ret (v := .agg #[.slice (some ⟨g, 0, none⟩) 2 cap', .slice (some ⟨wr.heap.size, 0, none⟩) 2 2, .slice (some ⟨wr.heap.size + 1, 0, none⟩) 2 2]) ?_ rfl ?_
          · simp [results, Try.results13, go_sem, hd0, hd1, hd2, hc0, hc1, hc2, hdlt, hplt]
          · exact fin_all hnew.out (Nat.le_of_eq hkl'.out) (by omega) hb hplt hgb hpg hnc' hcm' rfl
        · subst h1
          obtain ⟨g, cap', ex', rfl, hgb, hpg, hnc', hcm'⟩ := own_split hown (by omega)
          have hmk := mk3
          clear hx hown
          have hkl' := hid hkl
          have hnew := hid (newM_of hk hk4 (.inr hkl) (by omega))
          have hge : ¬ 3 < l.length := by omega
          clear hkl hk hlt
          go_wp2
          refine bodyPost_ret (v := .agg #[.slice (some ⟨g, 0, none⟩) 3 cap', .slice (some ⟨wr.heap.size, 0, none⟩) 3 3, .slice (some ⟨wr.heap.size + 1, 0, none⟩) 3 3]) ?_ rfl ?_
          · simp [results, Try.results13, go_sem, hd0, hd1, hd2, hc0, hc1, hc2, hdlt, hplt]
          · exact fin_all hnew.out (Nat.le_of_eq hkl'.out) (by omega) hb hplt hgb hpg hnc' hcm' rfl
        · subst h1
          obtain ⟨g, cap', ex', rfl, hgb, hpg, hnc', hcm'⟩ := own_split hown (by omega)
          have hmk := mk4
          clear hx hown
          have hkl' := hid hkl
          have hnew := hid (newM_of hk hk4 (.inr hkl) (by omega))
          have hge : ¬ 4 < l.length := by omega
          clear hkl hk hlt
          go_wp2
          refine bodyPost_ret (v := .agg #[.slice (some ⟨g, 0, none⟩) 4 cap', .slice (some ⟨wr.heap.size, 0, none⟩) 4 4, .slice (some ⟨wr.heap.size + 1, 0, none⟩) 4 4]) ?_ rfl ?_
          · simp [results, Try.results13, go_sem, hd0, hd1, hd2, hc0, hc1, hc2, hdlt, hplt]
          · exact fin_all hnew.out (Nat.le_of_eq hkl'.out) (by omega) hb hplt hgb hpg hnc' hcm' rfl
end Go.Proofs.Ytfnhjendplgidaa.Rm
