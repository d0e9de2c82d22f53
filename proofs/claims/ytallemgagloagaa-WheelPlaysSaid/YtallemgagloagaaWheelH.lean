/- DERIVED. The small helpers of the statements on wheels: early, kind, the document's example; a script of steps. No statement is proved here. -/
import Derived.Test.YtallemgagloagaaWheelL
import Derived.Test.YtallemgagloagaaK4
import Derived.Test.YtallemgagloagaaRef01
namespace Go.Proofs.Ytallemgagloagaa.Wh
set_option linter.unusedVariables false
set_option linter.unusedSimpArgs false
open Go.RowKit Go.Proofs.Ytallemgagloagaa.K Go.Proofs.Ytallemgagloagaa.Lb
structure WSt where
  k : Int
  key : Int
  n : Int
def encS (q : WSt) : List Value := [.int .i64 q.k, .int .i64 q.key, .int .i64 q.n]
def goodS (_ : World) (q : WSt) : Prop := isInt q.key
abbrev WStepsAt := RecsAt encS 3 goodS
theorem minTwo (a b : Int) (w : World) : (Builtin.min_ #[3, 3] 3 #[.int .i64 a, .int .i64 b]).run Try.prog w = .ok (.int .i64 (min a b)) w := by
  unfold Builtin.min_
  simp [Builtin.min2]
  split <;> (congr 2; omega)
theorem wearly_c {w0 : World} (w : World) {v : Value} {l : List WSt} (h : WStepsAt w0 v l) : Calls Try.prog 16 #[v] w fun e w' => ∃ v', e = .returned v' ∧ WStepsAt w0 v' (l.take 80) ∧ w = w' := by
  obtain ⟨ao, cap, rfl, ht⟩ := h.take 80
  obtain ⟨-, hlc, hcm, -⟩ := h.get
  have hmin := @minTwo
  have hmn : min (l.length : Int) 80 ≤ cap := by omega
  have hmz : 0 ≤ min (l.length : Int) 80 := by omega
  have e80 := hid (show (l.take 80).length = (min (l.length : Int) 80).toNat by simp; omega)
  replace ht := hid ht
  replace h := hid h
  go_enter Try.func16, Try.ntmps16
  go_wp2
  go_ret
  refine ⟨_, ?_, ht.out, rfl⟩
  show Ending.returned (.slice ao _ cap) = _
  rw [e80.out]
def kindW (k : Int) : Int := (k % 18446744073709551616) % 6
theorem wkind_c (w : World) (q : WSt) : Calls Try.prog 17 #[.agg #[.int .i64 q.k, .int .i64 q.key, .int .i64 q.n]] w fun e w' => e = .returned (.int .i64 (kindW q.k)) ∧ Below w.heap.size w w' := by
  go_enter Try.func17, Try.ntmps17
  go_wp2
  go_ret
  exact ⟨rint (by rw [IntKind.wrap_u64, Int.tmod_eq_emod_of_nonneg (by omega)]; unfold wrap64 kindW; omega), (Below.refl _ _).alloc (Nat.le_refl _) _⟩
theorem WStepsAt.atC {w0 w : World} {ao : Option Addr} {n cap : Nat} {qs : List WSt} (h : WStepsAt w0 (.slice ao n cap) qs) (hb : Below w0.heap.size w0 w) {i : Nat} (hi : i < qs.length) : ∃ g o, ao = some ⟨g, o, none⟩ ∧ g < w.heap.size ∧ isInt qs[i].key ∧
    w.cell? ⟨g, o + i * 3, none⟩ = some (.int .i64 qs[i].k) ∧ w.cell? ⟨g, o + i * 3 + 1, none⟩ = some (.int .i64 qs[i].key) ∧ w.cell? ⟨g, o + i * 3 + 2, none⟩ = some (.int .i64 qs[i].n) := by
  obtain ⟨-, -, -, hget⟩ := h.get
  obtain ⟨g, o, e, hg, hw, hc⟩ := hget i hi
  have hcc : ∀ j, w.cell? ⟨g, j, none⟩ = w0.cell? ⟨g, j, none⟩ := fun j => hb.cell (p := ⟨g, j, none⟩) hg
  exact ⟨g, o, e, Nat.lt_of_lt_of_le hg hb.size, hw, by rw [hcc]; exact hc 0 (by omega), by rw [hcc]; exact hc 1 (by omega), by rw [hcc]; exact hc 2 (by omega)⟩
def LivesW (w : World) (e : Ending) (w' : World) : Prop := e = .returned (.bool true) ∧ Below w.heap.size w w'
def w1L : List Ent := [⟨5, 9, 1⟩]
def w2L : List Ent := [⟨5, 9, 1⟩, ⟨6, 9, 2⟩]
def w3L : List Ent := [⟨5, 9, 1⟩, ⟨6, 9, 2⟩, ⟨7, 9, 3⟩]
def w4L : List Ent := [⟨7, 8, 4⟩, ⟨5, 9, 1⟩, ⟨6, 9, 2⟩]
theorem WhM.wd {base : Nat} {w0 w w' : World} {M : Nat → Prop} {wb : Nat} {l' : List Ent} {s' : Int} {v : Value} {e : Ending} (hW : Wd base w0 w M) (h : StepW w M wb l' s' v e w') : e = .returned v ∧ WhM w' (grow M w w') wb l' s' ∧ Wd base w0 w' (grow M w w') := ⟨h.1, h.2.1, hW.chg h.2.2⟩
theorem set_e {w : World} {M : Nat → Prop} {wb : Nat} {l l' : List Ent} {s s' : Int} {b : Bool} (h : WhM w M wb l s) (hs : s < 1000000) {k : Int} (hk : isInt k) {u : Int} (e1 : setE l k (cutT u) (s + 1) = l') (e2 : s + 1 = s') (e3 : hasE l k = b) : Calls Try.prog 10 #[.pointer (some ⟨wb, 0, none⟩), .int .i64 k, .int .i64 u] w (StepW w M wb l' s' (.bool b)) := by
  subst e1 e2 e3; exact set_l h hs hk u
theorem due_e {w : World} {M : Nat → Prop} {wb : Nat} {l out rest : List Ent} {s : Int} (h : WhM w M wb l s) (hs : s ≤ 1000000) (hl : l.length ≤ 1000000) {now : Int} {ks : List Int} (e1 : l.filter (lateE now) = out) (e2 : l.filter (fun e => !lateE now e) = rest) (e3 : keysE out = ks) : Calls Try.prog 11 #[.pointer (some ⟨wb, 0, none⟩), .int .i64 now] w (fun e w' => ∃ v, e = .returned v ∧ IntsAt (fun b => w.heap.size ≤ b) w' v ks ∧ WhM w' M wb rest s ∧ Chg M w w') := by
  subst e1 e2 e3; exact due_l h hs hl now
theorem Wd.chgSame {base : Nat} {w0 w w' : World} {M : Nat → Prop} (h : Wd base w0 w M) (hc : Chg M w w') : Wd base w0 w' M := ⟨h.below.trans (hc.toBelow h.le h.ge), h.ge, fun b hb => Nat.lt_of_lt_of_le (h.lt b hb) hc.size, Nat.le_trans h.le hc.size⟩
set_option maxHeartbeats 1000000 in
theorem lives_c (w : World) : Calls Try.prog 8 #[] w (LivesW w) := by
  have i5 : isInt 5 := by unfold isInt; omega
  have i6 : isInt 6 := by unfold isInt; omega
  have i7 : isInt 7 := by unfold isInt; omega
  go_enter Try.func8, Try.ntmps8
  go_upto_region 2 with (first | (go_at_call 9; (with_reducible refine (new_l w).mono ?_); rintro e w1 ⟨wb, rfl, hG, hb⟩; have hG1 := hid hG; have hW1 := hid (show Wd w.heap.size w w1 (fun b => w.heap.size ≤ b ∧ b < w1.heap.size) from ⟨hb, fun b h => h.1, fun b h => h.2, hb.size⟩); clear hG hb; generalize (fun b => w.heap.size ≤ b ∧ b < w1.heap.size) = M1 at hG1 hW1))
  go_upto_region 3 with (first | (go_at_call 10; (with_reducible refine (set_e hG1.out (by decide) i5 (u := 9) (l' := w1L) rfl rfl (b := false) rfl).mono ?_); rintro e w2 hp; obtain ⟨rfl, hG, hW⟩ := WhM.wd hW1.out hp; have hG2 := hid hG; have hW2 := hid hW; clear hG hW hp; generalize grow M1 w1 w2 = M2 at hG2 hW2))
  go_upto_region 4 with (first | (go_at_call 10; (with_reducible refine (set_e hG2.out (by decide) i6 (u := 9) (l' := w2L) rfl rfl (b := false) rfl).mono ?_); rintro e w3 hp; obtain ⟨rfl, hG, hW⟩ := WhM.wd hW2.out hp; have hG3 := hid hG; have hW3 := hid hW; clear hG hW hp; generalize grow M2 w2 w3 = M3 at hG3 hW3))
  go_upto_region 5 with (first | (go_at_call 10; (with_reducible refine (set_e hG3.out (by decide) i7 (u := 9) (l' := w3L) rfl rfl (b := false) rfl).mono ?_); rintro e w4 hp; obtain ⟨rfl, hG, hW⟩ := WhM.wd hW3.out hp; have hG4 := hid hG; have hW4 := hid hW; clear hG hW hp; generalize grow M3 w3 w4 = M4 at hG4 hW4))
  go_upto_region 6 with (first | (go_at_call 10; (with_reducible refine (set_e hG4.out (by decide) i7 (u := 8) (l' := w4L) rfl rfl (b := true) rfl).mono ?_); rintro e w5 hp; obtain ⟨rfl, hG, hW⟩ := WhM.wd hW4.out hp; have hG5 := hid hG; have hW5 := hid hW; clear hG hW hp; generalize grow M4 w4 w5 = M5 at hG5 hW5))
  go_wp2_with (first | (go_at_call 11; (with_reducible refine (due_e hG5.out (by decide) (by decide) (now := 7) (out := []) (rest := w4L) (ks := []) rfl rfl rfl).mono ?_); rintro e w6 ⟨v6, rfl, hi, hG, hC⟩; obtain ⟨a6, c6, rfl⟩ := hi.shape; simp only [List.length_nil]; have hG6 := hid hG; have hW6 := hid (Wd.chgSame hW5.out hC); clear hi hG hC) | (go_at_call 11; (with_reducible refine (due_e hG6.out (by decide) (by decide) (now := 9) (out := w4L) (rest := []) (ks := [7, 5, 6]) rfl rfl rfl).mono ?_); rintro e w7 ⟨v7, rfl, hi, hG, hC⟩; obtain ⟨a7, c7, rfl⟩ := hi.shape; have hG7 := hid hG; have hW7 := hid (Wd.chgSame hW6.out hC); have hsm := hid (show Calls Try.prog 21 #[.slice a7 3 c7, .slice (some ⟨w7.heap.size, 0, none⟩) 3 3] (w7.alloc (.cells #[.int .i64 7, .int .i64 5, .int .i64 6] 3)) (fun e w' => e = .returned (.bool true) ∧ Drawn (w7.alloc (.cells #[.int .i64 7, .int .i64 5, .int .i64 6] 3)) w') from R1.same_c (xs := [7, 5, 6]) (ys := [7, 5, 6]) (hi.below ((Below.refl w7.heap.size w7).alloc (Nat.le_refl _) (.cells #[.int .i64 7, .int .i64 5, .int .i64 6] 3))) (IntsAt.of_pts (ok := fun _ => True) (xs := [7, 5, 6]) (cap := 3) (ex := []) (pts.newA w7 #[.int .i64 7, .int .i64 5, .int .i64 6] 3) trivial (by simp) (by unfold maxLen; omega))); simp only [List.length_cons, List.length_nil, Nat.zero_add, Nat.reduceAdd]; clear hi hG hC) | (go_at_call 21; (with_reducible refine (hsm.out).mono ?_); rintro e w8 ⟨rfl, k, rfl⟩; have hb8 := (Below.refl w7.heap.size w7).alloc (Nat.le_refl _) (.cells #[.int .i64 7, .int .i64 5, .int .i64 6] 3); have hb9 : Below w7.heap.size w7 ((w7.alloc (.cells #[.int .i64 7, .int .i64 5, .int .i64 6] 3)).drewN k) := ⟨hb8.os, hb8.tape, hb8.output, hb8.size, hb8.block⟩; have hG8 := hid (hG7.out.below hb9); have hW8 := hid (hW7.out.next hb9); clear hb8 hb9; generalize (w7.alloc (.cells #[.int .i64 7, .int .i64 5, .int .i64 6] 3)).drewN k = w8 at hG8 hW8) | (go_at_call 12; (with_reducible refine (len_l hG8.out).mono ?_); rw [List.length_nil]; rintro e w' ⟨rfl, rfl⟩))
  go_ret
  exact ⟨rfl, hW8.out.below⟩
end Go.Proofs.Ytallemgagloagaa.Wh
