/- DERIVED. The walks over package wheel: New, Set, Until, Cancel, Len. -/
import Derived.Test.YtnlmkllhmldgiaaLibA
import Derived.Test.YtnlmkllhmldgiaaRegK
import Derived.Maps.OwnSet
import Derived.Deep.DeepCutAuto
import Derived.Deep.CutBlock
namespace Go.Proofs.Ytnlmkllhmldgiaa.Wh
set_option linter.unusedVariables false
set_option linter.unusedSimpArgs false
open Go.RowKit Go.Maps Go.Proofs.Ytnlmkllhmldgiaa.K Go.Proofs.Ytnlmkllhmldgiaa.Lb

theorem lawI : Keyed Try.prog 3 := int_keyed Try.underlying3
theorem zeroW (w : World) : (zeroValue 87).run Try.prog w = .ok (.agg #[.int .i64 0, .int .i64 0]) w := by kernel_rfl
/-- How an element reads: until when, how many were set ahead. -/
def waitD (u s : Int) : DataW Unit := .agg [.lit (.int .i64 u), .lit (.int .i64 s)]
def waitElem (v : Value) : Option (DataW Unit × List MemPlace) :=
  match v with
  | .agg cs => match cs.toList with
    | [.int .i64 u, .int .i64 s] => some (waitD u s, [])
    | _ => none
  | _ => none
theorem waitElem_mk (u s : Int) : waitElem (.agg #[.int .i64 u, .int .i64 s]) = some (waitD u s, []) := rfl
theorem waitElem_inv {v : Value} {d : DataW Unit} {ps : List MemPlace} (h : waitElem v = some (d, ps)) : ∃ u s, v = .agg #[.int .i64 u, .int .i64 s] ∧ d = waitD u s := by
  unfold waitElem at h
  split at h
  · rename_i cs
    split at h
    · rename_i u s hcs
      simp only [Option.some.injEq, Prod.mk.injEq] at h
      refine ⟨u, s, ?_, h.1.symm⟩
      congr 1
      exact Array.toList_inj.1 hcs
    · cases h
  · cases h
/-- An int that an int may be. -/
def isInt (x : Int) : Prop := -9223372036854775808 ≤ x ∧ x ≤ 9223372036854775807
theorem keyI {x : Int} (h : isInt x) : keyOf Try.prog 3 (.int .i64 x) = some (.int .i64 x) := keyOf_int_mk Try.underlying3 (by have h1 := wrap64_wf x; have e : wrap64 x = x := by { unfold isInt at h; unfold wrap64; omega }; rwa [e] at h1)
/-- A wheel: its struct's block, its map's block; at most n keys wait; D: who waits until when; s: how many were set. -/
structure WheelAt (w : World) (wb mb n : Nat) (D : DataW Unit) (s : Int) : Prop where
  at_ : pts w wb [.map (some mb), .int .i64 s] 85
  map : w.ownsMap Try.prog 3 waitElem mb n D
theorem ownsMap_of {w w' : World} {b n : Nat} {D : DataW Unit} (h : w.ownsMap Try.prog 3 waitElem b n D) (e : w'.heap[b]? = w.heap[b]?) : w'.ownsMap Try.prog 3 waitElem b n D := by
  obtain ⟨es, clock, hb, hx⟩ := h
  exact ⟨es, clock, e.trans hb, hx⟩
theorem WheelAt.kept {w w' : World} {wb mb n : Nat} {D : DataW Unit} {s : Int} (h : WheelAt w wb mb n D s) (h1 : w'.heap[wb]? = w.heap[wb]?) (h2 : w'.heap[mb]? = w.heap[mb]?) : WheelAt w' wb mb n D s := ⟨h.at_.of h1, ownsMap_of h.map h2⟩
theorem WheelAt.lt {w : World} {wb mb n : Nat} {D : DataW Unit} {s : Int} (h : WheelAt w wb mb n D s) : wb < w.heap.size ∧ mb < w.heap.size := ⟨h.at_.lt, h.map.lt⟩
theorem WheelAt.below {w w' : World} {wb mb n : Nat} {D : DataW Unit} {s : Int} (h : WheelAt w wb mb n D s) (hb : Below w.heap.size w w') : WheelAt w' wb mb n D s := h.kept (hb.block _ h.lt.1) (hb.block _ h.lt.2)
theorem WheelAt.chg {M : Nat → Prop} {w w' : World} {wb mb n : Nat} {D : DataW Unit} {s : Int} (h : WheelAt w wb mb n D s) (hc : Chg M w w') (h1 : ¬ M wb) (h2 : ¬ M mb) : WheelAt w' wb mb n D s := h.kept (hc.block _ h.lt.1 h1) (hc.block _ h.lt.2 h2)
theorem WheelAt.ne {w : World} {wb mb n : Nat} {D : DataW Unit} {s : Int} (h : WheelAt w wb mb n D s) : wb ≠ mb := by
  intro e
  obtain ⟨es, clock, hb, _⟩ := h.map
  have h1 := h.at_
  unfold pts at h1
  rw [e, hb] at h1
  cases h1
theorem WheelAt.mono {w : World} {wb mb n n' : Nat} {D : DataW Unit} {s : Int} (h : WheelAt w wb mb n D s) (hn : n ≤ n') : WheelAt w wb mb n' D s := ⟨h.at_, h.map.mono hn⟩
/-- The blocks of a wheel. -/
def WM (wb mb : Nat) : Nat → Prop := fun b => b = wb ∨ b = mb
theorem chg_turned {w w' : World} {wb mb : Nat} (h : w.mapTurned w' mb) : Chg (WM wb mb) w w' := by
  have g := h.grown
  exact ⟨g.os, g.tape, g.output, g.size, fun k hk hn => g.block k hk (fun e => hn (.inr (by simpa using e)))⟩

def NewWheel (w : World) (e : Ending) (w' : World) : Prop := ∃ wb mb, e = .returned (.pointer (some ⟨wb, 0, none⟩)) ∧ WheelAt w' wb mb 0 (.map []) 0 ∧ w.heap.size ≤ wb ∧ w.heap.size ≤ mb ∧ Below w.heap.size w w'
theorem new_c (w : World) : Calls Try.prog 32 #[] w (NewWheel w) := by
  have hmk : ∀ w, (Instr.makeMap 83 none).run Try.prog w = .ok (.map (some w.heap.size)) (w.alloc (.map #[] 0)) := fun w => run_makeMap 83 w
  go_enter Try.func32, Try.ntmps32
  go_wp2
  go_ret
  exact ⟨w.heap.size + 1, w.heap.size, rfl, ⟨heap_at _ _ _ (by simp), (World.ownsMap_made w Try.prog 3 waitElem).alloc _⟩, by omega, by omega, ((Below.refl _ _).alloc (Nat.le_refl _) _).alloc (by simp) _⟩

/-- Who waits: the answer of Until. -/
def untilD (D : DataW Unit) (x : Int) : Int := match D.atKey (.int .i64 x) (waitD 0 0) with | .agg (.lit (.int .i64 u) :: _) => u | _ => 0
theorem until_nil (w : World) (x : Int) : Calls Try.prog 48 #[.pointer none, .int .i64 x] w fun e w' => e = .returned (.tuple #[.int .i64 0, .bool false]) ∧ w = w' := by
  go_enter Try.func48, Try.ntmps48
  go_wp2
  all_goals go_ret2
  all_goals exact ⟨rfl, rfl⟩
theorem until_c {w : World} {wb mb n : Nat} {D : DataW Unit} {s : Int} (h : WheelAt w wb mb n D s) {x : Int} (hx : isInt x) :
    Calls Try.prog 48 #[.pointer (some ⟨wb, 0, none⟩), .int .i64 x] w fun e w' => e = .returned (.tuple #[.int .i64 (untilD D x), .bool (Maps.has D (.int .i64 x))]) ∧ Below w.heap.size w w' := by
  obtain ⟨v, ps, hr, hv⟩ := h.map.look_ok lawI Try.underlying83 (zeroW w) (waitElem_mk 0 0) (keyI hx)
  obtain ⟨u, s', rfl, hd⟩ := waitElem_inv hv
  have hu : untilD D x = u := by unfold untilD; rw [hd]; rfl
  rw [hu]
  have c0 := h.at_.cell 0
  simp only [List.getElem?_cons_zero] at c0
  have hl := h.lt
  have h1 := hid h
  have hv1 := hid hv
  have hd1 := hid hd
  have hu1 := hid hu
  clear h hv hd hu
  go_enter Try.func48, Try.ntmps48
  go_wp2
  all_goals go_ret2
  all_goals exact ⟨rfl, (Below.refl _ _).alloc (Nat.le_refl _) _⟩
theorem cancel_nil (w : World) (x : Int) : Calls Try.prog 44 #[.pointer none, .int .i64 x] w fun e w' => e = .returned (.bool false) ∧ w = w' := by
  go_enter Try.func44, Try.ntmps44
  go_wp2_with (first | (go_at_call 48; (with_reducible refine (until_nil _ _).mono ?_); rintro e w' ⟨rfl, rfl⟩))
  all_goals go_ret
  all_goals exact ⟨rfl, rfl⟩
theorem del_none {D : DataW Unit} {k : Lit} (h : Maps.has D k = false) : D.del k = D := Maps.del_of_not_has h
theorem cancel_c {w : World} {wb mb n : Nat} {D : DataW Unit} {s : Int} (h : WheelAt w wb mb n D s) {x : Int} (hx : isInt x) :
    Calls Try.prog 44 #[.pointer (some ⟨wb, 0, none⟩), .int .i64 x] w fun e w' => e = .returned (.bool (Maps.has D (.int .i64 x))) ∧ WheelAt w' wb mb n (D.del (.int .i64 x)) s ∧ Chg (WM wb mb) w w' := by
  have hne := h.ne
  have h1 := hid h
  have hl := h.lt
  clear h
  cases hh : Maps.has D (.int .i64 x) with
  | false =>
    rw [del_none hh]
    have hh1 := hid hh
    clear hh
    go_enter Try.func44, Try.ntmps44
    go_wp2_with (first | (go_at_call 48; (with_reducible refine (until_c h1.out hx).mono ?_); rw [hh1.out]; rintro e w1 ⟨rfl, hb⟩; have hb := hid hb))
    go_ret
    exact ⟨rfl, h1.out.below hb.out, Chg.of_below hb.out⟩
  | true =>
    have hh1 := hid hh
    clear hh
    go_enter Try.func44, Try.ntmps44
    go_wp2_with (first | (go_at_call 48; (with_reducible refine (until_c h1.out hx).mono ?_); rw [hh1.out]; rintro e w1 ⟨rfl, hb⟩; have hb := hid hb; have h2 := h1.out.below hb.out; have c0 := h2.at_.cell 0; simp only [List.getElem?_cons_zero] at c0; obtain ⟨w2, hr, hm, ht⟩ := h2.map.drop lawI Try.underlying83 (keyI hx) 0; have h2 := hid h2; have hm := hid hm; have ht := hid ht))
    go_ret
    exact ⟨rfl, ⟨h2.out.at_.of (ht.out.grown.block _ h2.out.lt.1 (by simpa using hne)), hm.out⟩, (Chg.of_below hb.out).trans (chg_turned ht.out) (fun i hi => .inl hi)⟩
theorem set_nil (w : World) (x u : Int) : Calls Try.prog 35 #[.pointer none, .int .i64 x, .int .i64 u] w fun e w' => e = .returned (.bool false) ∧ w = w' := by
  go_enter Try.func35, Try.ntmps35
  go_wp2
  all_goals go_ret
  all_goals exact ⟨rfl, rfl⟩
def SetPost (w : World) (wb mb n : Nat) (D : DataW Unit) (s x u : Int) (e : Ending) (w' : World) : Prop :=
  e = .returned (.bool (Maps.has D (.int .i64 x))) ∧ WheelAt w' wb mb (n + 1) (D.put (.int .i64 x) (waitD (cutT u) (wrap64 (s + 1)))) (wrap64 (s + 1)) ∧ Chg (WM wb mb) w w'
theorem set_c {w : World} {wb mb n : Nat} {D : DataW Unit} {s : Int} (h : WheelAt w wb mb n D s) (hn : n < 1000000) {x : Int} (hx : isInt x) (u : Int) :
    Calls Try.prog 35 #[.pointer (some ⟨wb, 0, none⟩), .int .i64 x, .int .i64 u] w (SetPost w wb mb n D s x u) := by
  obtain ⟨v, ps, hr, hv⟩ := h.map.look_ok lawI Try.underlying83 (zeroW w) (waitElem_mk 0 0) (keyI hx)
  obtain ⟨u0, s0, rfl, -⟩ := waitElem_inv hv
  have c0 := h.at_.cell 0
  have c1 := h.at_.cell 1
  have f1 := h.at_.frozen 1
  simp only [List.getElem?_cons_zero, List.getElem?_cons_succ] at c0 c1
  have hl := h.lt
  have hne := hid h.ne
  have h1 := hid h
  clear h hv
  go_enter Try.func35, Try.ntmps35
  go_upto_region 5 with fail
  have hW : WheelAt ((w.setCell ⟨wb, 1, none⟩ (.int .i64 (wrap64 (s + 1)))).alloc (.cells #[.int .i64 u0, .int .i64 s0] 87)) wb mb n D (wrap64 (s + 1)) :=
    ⟨by simpa using (h1.out.at_.set 1 (.int .i64 (wrap64 (s + 1)))).alloc _, (h1.out.map.setCell (by simpa using Ne.symm hne.out) _).alloc _⟩
  have hC : Chg (WM wb mb) w ((w.setCell ⟨wb, 1, none⟩ (.int .i64 (wrap64 (s + 1)))).alloc (.cells #[.int .i64 u0, .int .i64 s0] 87)) := ((Chg.refl _ w).setB (.inl rfl)).alloc _
  generalize (w.setCell ⟨wb, 1, none⟩ (.int .i64 (wrap64 (s + 1)))).alloc (.cells #[.int .i64 u0, .int .i64 s0] 87) = W at hW hC ⊢
  clear hr c0 c1 f1
  have c0 := hW.at_.cell 0
  have c1 := hW.at_.cell 1
  simp only [List.getElem?_cons_zero, List.getElem?_cons_succ] at c0 c1
  have hD : WheelAt W.drew wb mb n D (wrap64 (s + 1)) := hW.kept rfl rfl
  obtain ⟨w2, hr2, hm2, ht2⟩ := hD.map.store lawI Try.underlying83 (by unfold maxLen; omega) (keyI hx) (waitElem_mk (cutT u) (wrap64 (s + 1)))
  have hp2 := hD.at_.of (ht2.grown.block _ hD.lt.1 (by simpa using hne.out))
  have q0 := hp2.cell 0
  have q1 := hp2.cell 1
  simp only [List.getElem?_cons_zero, List.getElem?_cons_succ] at q0 q1
  have hF := hid (show WheelAt w2 wb mb (n + 1) (D.put (.int .i64 x) (waitD (cutT u) (wrap64 (s + 1)))) (wrap64 (s + 1)) ∧ Chg (WM wb mb) w w2 from ⟨⟨hp2, hm2⟩, (hC.drew).trans (chg_turned ht2) (fun i hi => .inl hi)⟩)
  clear hW hD hC hm2 ht2 hp2
  go_region_held3 (fun W' => W'.cell? ⟨wb, 0, none⟩ = some (.map (some mb)) ∧ W'.cell? ⟨wb, 1, none⟩ = some (.int .i64 (wrap64 (s + 1))))
    (first | go_keep | ((try dsimp only); (repeat' apply And.intro) <;> go_keep))
    (first | (go_at_call 43; (with_reducible refine (cut_c _ _).mono ?_); rintro e w' ⟨rfl, rfl⟩))
  go_wp2
  go_ret
  exact ⟨rfl, hF.out⟩
end Go.Proofs.Ytnlmkllhmldgiaa.Wh
