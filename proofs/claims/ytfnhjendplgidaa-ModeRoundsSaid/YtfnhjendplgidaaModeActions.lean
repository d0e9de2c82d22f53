/- DERIVED. The walk over the statement ModeActions. -/
import Derived.Test.YtfnhjendplgidaaModeH
import Derived.Deep.DeepCutAuto
import Derived.Deep.CutBlock
namespace Go.Proofs.Ytfnhjendplgidaa.Lw
open Go.RowKit Go.Proofs.Ytfnhjendplgidaa.K Go.Proofs.Ytfnhjendplgidaa.Md

theorem maxInt (a b : Int) (w : World) : (Builtin.max_ #[3, 3] 3 #[.int .i64 a, .int .i64 b]).run Try.prog w = .ok (.int .i64 (max a b)) w := by
  unfold Builtin.max_
  simp [Builtin.max2]
  split <;> (congr 2; omega)

theorem cellOf {w w' : World} {a g : Nat} (h : Chg (Mine a) w w') (hg : g < w.heap.size) (hne : g ≠ a) (o : Nat) : w'.cell? ⟨g, o, none⟩ = w.cell? ⟨g, o, none⟩ := World.cell?_of_block (h.block g hg hne)
theorem clampA_id {x : Int} (h : x = 0 ∨ x = 1 ∨ x = 2) : clampA x = x := by unfold clampA; split <;> omega
/-- Ahead of partition k: all stand Normal from k on, with their actions. -/
def Fresh (s : List Part) (ys : List Int) (k : Nat) : Prop := s.length = max ys.length 1 ∧ ∀ i (h : i < ys.length) (h2 : i < s.length), s[i].a = ys[i] ∧ (k ≤ i → s[i].m = 0)
theorem fresh0 {ys : List Int} (hy : ys.length ≤ 4) (h : ∀ y ∈ ys, y = 0 ∨ y = 1 ∨ y = 2) : Fresh (newM ys) ys 0 := by
  unfold newM
  split
  · rename_i h0
    refine ⟨by simp [h0], fun i hi => by omega⟩
  · have e : ys.take 4 = ys := List.take_of_length_le hy
    rw [e]
    refine ⟨by simp; omega, fun i hi h2 => ?_⟩
    simp only [List.getElem_map, mk]
    exact ⟨clampA_id (h _ (List.getElem_mem hi)), fun _ => trivial⟩
theorem Fresh.faults {s : List Part} {ys : List Int} {k : Nat} (h : Fresh s ys k) (hk : k < ys.length) (hk2 : k < s.length) :
    Fresh (faultM s k).1 ys (k + 1) ∧ faultM s k = (s.set k { s[k] with m := ys[k] }, ys[k], 0) := by
  have h0 := (h.2 k hk hk2).2 (Nat.le_refl _)
  have ha := (h.2 k hk hk2).1
  have e : faultM s k = (s.set k { s[k] with m := ys[k] }, ys[k], 0) := by
    unfold faultM; rw [at?_in hk2]; simp only [h0, if_true, ha, Int.toNat_natCast]
  refine ⟨?_, e⟩
  rw [e]
  refine ⟨by simpa using h.1, fun i hi h2 => ?_⟩
  simp only [List.getElem_set]
  have h2' : i < s.length := by simpa using h2
  split
  · rename_i hki; subst hki; exact ⟨ha, fun h => by omega⟩
  · exact ⟨(h.2 i hi h2').1, fun hle => (h.2 i hi h2').2 (by omega)⟩
theorem Fresh.again {s : List Part} {ys : List Int} {k : Nat} (h : Fresh s ys (k + 1)) (hk : k < ys.length) (hk2 : k < s.length) (y : Int) : Fresh (s.set k { s[k] with m := y }) ys (k + 1) := by
  refine ⟨by simpa using h.1, fun i hi h2 => ?_⟩
  simp only [List.getElem_set]
  have h2' : i < s.length := by simpa using h2
  split
  · rename_i hki; subst hki; exact ⟨(h.2 k hk hk2).1, fun h => by omega⟩
  · exact ⟨(h.2 i hi h2').1, fun hle => (h.2 i hi h2').2 (by omega)⟩
theorem Fresh.step {s : List Part} {ys : List Int} {k : Nat} (h : Fresh s ys k) (hk : k < ys.length) (hk2 : k < s.length) (hy : ys[k] = 0 ∨ ys[k] = 1 ∨ ys[k] = 2) :
    (faultM s k).2 = (ys[k], 0) ∧ modeM (faultM s k).1 k = (ys[k], true) ∧ Fresh (faultM (faultM s k).1 k).1 ys (k + 1) ∧ (faultM (faultM s k).1 k).2 = (0, if ys[k] = 0 then 0 else 5) := by
  obtain ⟨h1, e⟩ := h.faults hk hk2
  have hk3 : k < (faultM s k).1.length := by rw [h1.1]; rw [h.1] at hk2; exact hk2
  have hm : (faultM s k).1[k].m = ys[k] := by simp [e]
  have ha := (h1.2 k hk hk3).1
  refine ⟨by rw [e], by unfold modeM; rw [at?_in hk3]; simp only [hm], ?_⟩
  clear e
  generalize (faultM s k).1 = s1 at h1 hk3 hm ha
  unfold faultM
  rw [at?_in hk3]
  simp only [hm, ha]
  by_cases h0 : ys[k] = 0
  · simp only [h0, if_true, Int.toNat_natCast]
    exact ⟨by have := h1.again hk hk3 0; simp only [ha, h0] at this; exact this, trivial⟩
  · simp only [h0, if_false]
    exact ⟨h1, trivial⟩

theorem Fresh.stepc {s : List Part} {ys : List Int} {k : Nat} (h : Fresh s ys k) (hk : k < ys.length) (hk2 : k < s.length) {c d : Int} (hc : ys[k] = c) (hy : c = 0 ∨ c = 1 ∨ c = 2) (hd : d = if c = 0 then 0 else 5) :
    (faultM s k).2.1 = c ∧ (faultM s k).2.2 = 0 ∧ (modeM (faultM s k).1 k).1 = c ∧ (modeM (faultM s k).1 k).2 = true ∧ (faultM (faultM s k).1 k).2.1 = 0 ∧ (faultM (faultM s k).1 k).2.2 = d ∧ Fresh (faultM (faultM s k).1 k).1 ys (k + 1) := by
  obtain ⟨h1, h2, h3, h4⟩ := h.step hk hk2 (by rw [hc]; exact hy)
  rw [hc] at h1 h2 h4
  simp only [h1, h2, h4, hd]
  exact ⟨trivial, trivial, trivial, trivial, trivial, trivial, h3⟩

set_option maxHeartbeats 2000000 in
set_option maxRecDepth 100000 in
theorem actions_c {w : World} {va : Value} {l : List Int} (hl : IntsAt (fun _ => True) w va l) : Calls Try.prog 3 #[va] w (LivesPost w) := by
  obtain ⟨ao, cap, rfl, ⟨hlc, hcm, hnc⟩, hx⟩ := hl
  unfold maxLen at hcm
  go_enter Try.func3, Try.ntmps3
  go_wp2_with (first | (go_at_call 7; refine (lives_c _).mono ?_; rintro e w1 ⟨rfl, hb1⟩))
  go_loopw [4, 3] (fun i v wr => ∃ k : Nat, k ≤ (l.take 4).length ∧ i = .int .i64 k ∧ wr.ownsRow w.heap.size 3 1 v k ((((l.take 4).take k).map kindM).map (Value.int .i64)) ∧ Below w.heap.size w wr) (fun i _ _ => 4 - (intOf i).toNat)
  case atStart => exact ⟨0, Nat.zero_le _, rfl, World.ownsRow_nil _ _ _ _, hb1⟩
  case round =>
    obtain ⟨k, hk, rfl, hown, hb⟩ := hrel
    clear hb1
    by_cases hlt : k < (l.take 4).length
    · have hkl : k < l.length := by simp at hlt; omega
      have hk4 : k < 4 := by simp at hlt; omega
      rcases hx with hx | ⟨g, o, rfl, hg, hgs, hc⟩
      · subst hx; simp at hkl
      have hck : wr.cell? ⟨g, o + k, none⟩ = some (.int .i64 l[k]) := (hb.cell (p := ⟨g, o + k, none⟩) hgs).trans (hc k hkl)
      clear hc
      have hz := hb.size
      have ek : (((l.take 4).take (k + 1)).map kindM).map (Value.int .i64) = (((l.take 4).take k).map kindM).map (Value.int .i64) ++ [.int .i64 (kindM l[k])] := by
        rw [List.take_succ_eq_append_getElem hlt]; simp
      have ek := hid ek
      have hlt := hid hlt
      have hkd : (IntKind.u64.wrap l[k]).tmod 3 = kindM l[k] := by rw [IntKind.wrap_u64, Int.tmod_eq_emod_of_nonneg (by omega)]; rfl
      have hwk : wrap64 (kindM l[k]) = kindM l[k] := by have := kindM_lt l[k]; unfold wrap64; omega
      go_wp2_with (at_builtin; refine wpList_push rfl (.tmp 25) (.tmp 33) 22 rfl elInt rfl (hown.alloc _) (hb.alloc hz _) (Nat.le_refl _) (by simp; omega) (news := [.int .i64 (kindM l[k])]) rfl rfl (heap_at _ _ _ (by simp)) (by simp [Value.oneCell']) (by unfold maxLen; omega) (by omega) ?_; intro v' w1 hown1 hb1 _ _)
      go_roundw
      case rel => exact ⟨k + 1, hlt.out, by go_num, ek.out ▸ hown1, hb1⟩
      case measure => simp [intOf]; omega
    · have hkk : k = (l.take 4).length := by omega
      rw [List.take_of_length_le (by omega)] at hown
      have hy4 : ((l.take 4).map kindM).length ≤ 4 := by simp; omega
      have hyk : ((l.take 4).map kindM).length = k := by rw [hkk, List.length_map]
      have hys : ∀ y ∈ (l.take 4).map kindM, y = 0 ∨ y = 1 ∨ y = 2 := by intro y hy; obtain ⟨x, _, rfl⟩ := List.mem_map.1 hy; exact kindM_lt x
      have hr := (IntsAt.of_own hown).mono (ok' := fun b => b < wr.heap.size) (fun b _ h => h)
      have hex : l.length ≤ k ∨ (k < l.length ∧ 4 ≤ k) := by simp at hkk; omega
      clear hown hlt hkk hx hk
      generalize (l.take 4).map kindM = ys at hy4 hyk hys hr
      subst hyk
      obtain ⟨av, cv, rfl⟩ := hr.shape
      have hr := hid hr
      have hB0 := hid hb
      clear hb
      rcases hex with hex | ⟨hex, hex2⟩
      all_goals
        go_wp2_with (first | (go_at_call 8; refine (new_c hr.out).mono ?_; rintro e w1 ⟨p, a, rfl, hM1, hp1, ha1, hb1⟩))
        have hF := fresh0 hy4 hys
        have hr1 : IntsAt (fun b => b ≠ a) w1 (.slice av ys.length cv) ys := (hr.out.mono (fun b h _ => by omega)).below hb1
        have hB1 := Below.next hB0.out hb1 hB0.out.size
        have haz : w.heap.size ≤ a := Nat.le_trans hB0.out.size ha1
        clear hb1 hp1 ha1
        go_loopw [6] (fun i wr => ∃ (j : Nat) (s : List Part), j ≤ ys.length ∧ i = .int .i64 j ∧ ModesAt wr p a s ∧ Fresh s ys j ∧ IntsAt (fun b => b ≠ a) wr (.slice av ys.length cv) ys ∧ Below w.heap.size w wr) (fun i _ => ys.length - (intOf i).toNat)
        case atStart => exact ⟨0, _, Nat.zero_le _, rfl, hM1, hF, hr1, hB1⟩
        case round =>
          clear hM1 hF hr1 hB1
          obtain ⟨j, s, hj, rfl, hM, hF, hI, hB⟩ := hrel
          obtain ⟨-, hcl, hcm, hget⟩ := hI.get
          by_cases hjl : j < ys.length
          · have hjs : j < s.length := by rw [hF.1]; omega
            obtain ⟨g, o, rfl, hga, hgl, hgc⟩ := hget j hjl
            have hst : ∀ c d : Int, ys[j] = c → (c = 0 ∨ c = 1 ∨ c = 2) → d = (if c = 0 then 0 else 5) → _ := fun c d h1 h2 h3 => hF.stepc hjl hjs (c := c) (d := d) h1 h2 h3
            have hM := hid hM
            have hF := hid hF
            have hI := hid hI
            have hB := hid hB
            rcases hys _ (List.getElem_mem hjl) with hy | hy | hy
            all_goals
              obtain ⟨e1, e2, e3, e4, e5, e6, e7⟩ := hst _ _ hy (by simp) rfl
              have e7 := hid e7
              rw [hy] at hgc
              simp only [if_true, if_false, show ¬ ((1 : Int) = 0) by omega, show ¬ ((2 : Int) = 0) by omega] at e6
              have hy := hid hy
              clear hget hst
              go_wp2_with (first | (go_at_call 9; refine (fault_c hM.out j).mono ?_; rintro e w4 ⟨rfl, hM4, hc4⟩; rw [e1, e2]; have hM4 := hid hM4; have hB4 := hid (chg_mine hc4 hB.out haz); have hI4 := hid (hI.out.chg hc4 (fun b h _ => h)); have hg4 := (cellOf hc4 hgl hga (o + j)).trans hgc; have hgl4 := Nat.lt_of_lt_of_le hgl hc4.size; clear hc4) | (go_at_call 10; refine (mode_c hM4.out j).mono ?_; rintro e w' ⟨rfl, rfl⟩; rw [e3, e4]) | (go_at_call 9; refine (fault_c hM4.out j).mono ?_; rintro e w5 ⟨rfl, hM5, hc5⟩; rw [e5, e6]; have hM5 := hid hM5; have hB5 := hid (chg_mine hc5 hB4.out haz); have hI5 := hid (hI4.out.chg hc5 (fun b h _ => h)); have hg5 := (cellOf hc5 hgl4 hga (o + j)).trans hg4; clear hc5))
              go_roundw
              case rel => exact ⟨j + 1, _, hjl, by go_num, hM5.out, e7.out, hI5.out, hB5.out⟩
              case measure => simp [intOf]; omega
          · obtain rfl : j = ys.length := by omega
            clear hget
            have hsl : ((s.map Part.m).length : Int) = max (ys.length : Int) 1 := by rw [List.length_map, hF.1]; omega
            go_wp2_with (first | (go_at_call 11; refine (all_c hM).mono ?_; rintro e w4 ⟨v, rfl, hv4, hb4⟩; obtain ⟨a4, c4, rfl⟩ := hv4.shape; have hB4 := hid (Below.next hB hb4 hB.size)))
            all_goals go_ret
            all_goals exact ⟨rbool (by have := hF.1; simp; omega), hB4.out⟩
end Go.Proofs.Ytfnhjendplgidaa.Lw
