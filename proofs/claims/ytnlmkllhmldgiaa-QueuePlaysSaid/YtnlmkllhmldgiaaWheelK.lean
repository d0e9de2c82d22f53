/- DERIVED. The walks over wheel.Keys, Len: the keys in their row, by slices.SortedFunc. No statement is proved here. -/
import Derived.Test.YtnlmkllhmldgiaaWheelW
import Derived.Test.YtnlmkllhmldgiaaRegG
import Derived.Shelf.SlSortCmp.Insertion
namespace Go.Proofs.Ytnlmkllhmldgiaa.Wh
set_option linter.unusedVariables false
set_option linter.unusedSimpArgs false
open Go.RowKit Go.Maps Go.Sort Go.Shelf Go.Proofs.Ytnlmkllhmldgiaa.K Go.Proofs.Ytnlmkllhmldgiaa.Lb
def cmpT (a b : Int) : Int := if a < b then -1 else if b < a then 1 else 0
def orT (a b : Int) : Int := if a ≠ 0 then a else b
theorem compare_c (w : World) (a b : Int) : Calls Try.prog 55 #[.int .i64 a, .int .i64 b] w fun e w' => e = .returned (.int .i64 (cmpT a b)) ∧ w = w' := by
  by_cases h1 : a < b
  · have d1 : decide (a < b) = true := decide_eq_true h1
    go_enter Try.func55, Try.ntmps55
    go_wp2
    all_goals go_ret
    all_goals exact ⟨rint (by unfold cmpT; rw [if_pos h1]), rfl⟩
  · have d1 : decide (a < b) = false := decide_eq_false h1
    by_cases h2 : b < a
    · have d2 : decide (b < a) = true := decide_eq_true h2
      go_enter Try.func55, Try.ntmps55
      go_wp2
      all_goals go_ret
      all_goals exact ⟨rint (by unfold cmpT; split <;> (try split) <;> omega), rfl⟩
    · have d2 : decide (b < a) = false := decide_eq_false h2
      go_enter Try.func55, Try.ntmps55
      go_wp2
      all_goals go_ret
      all_goals exact ⟨rint (by unfold cmpT; split <;> (try split) <;> omega), rfl⟩
theorem or_c {w : World} {b : Nat} {x y : Int} {T : TypeId} (h : pts w b [.int .i64 x, .int .i64 y] T) : Calls Try.prog 54 #[.slice (some ⟨b, 0, none⟩) 2 2] w fun e w' => e = .returned (.int .i64 (orT x y)) ∧ w = w' := by
  have c0 := h.cell 0
  have c1 := h.cell 1
  have hl := h.lt
  simp only [List.getElem?_cons_zero, List.getElem?_cons_succ] at c0 c1
  clear h
  by_cases h1 : x = 0
  · have d1 : (x != 0) = false := by simpa using h1
    have e1 : orT x y = y := by unfold orT; rw [if_neg (by simpa using h1)]
    rw [e1]
    by_cases h2 : y = 0
    · have d2 : (y != 0) = false := by simpa using h2
      have h2 := hid h2
      have h1 := hid h1
      clear e1
      go_enter Try.func54, Try.ntmps54
      go_wp2
      go_loopg [8, 5] 2 (fun g i u5 wr => ∃ k : Nat, k ≤ 2 ∧ g = 2 - k ∧ i = .int .i64 k ∧ wr = w)
      case atStart => exact ⟨0, by omega, rfl, rfl, rfl⟩
      case round =>
        obtain ⟨k, hk, hg, rfl, rfl⟩ := hrel
        rcases (show k = 0 ∨ k = 1 ∨ k = 2 by omega) with rfl | rfl | rfl
        · go_wp2
          go_roundg 1
          case rel => exact ⟨1, by omega, rfl, rfl, rfl⟩
          case measure => omega
        · go_wp2
          go_roundg 0
          case rel => exact ⟨2, by omega, rfl, rfl, rfl⟩
          case measure => omega
        · go_wp2
          go_ret
          exact ⟨rint h2.out.symm, rfl⟩
    · have d2 : (y != 0) = true := by simpa using h2
      have h2 := hid h2
      have h1 := hid h1
      clear e1
      go_enter Try.func54, Try.ntmps54
      go_wp2
      go_loopg [8, 5] 2 (fun g i u5 wr => ∃ k : Nat, k ≤ 1 ∧ g = 2 - k ∧ i = .int .i64 k ∧ wr = w)
      case atStart => exact ⟨0, by omega, rfl, rfl, rfl⟩
      case round =>
        obtain ⟨k, hk, hg, rfl, rfl⟩ := hrel
        rcases (show k = 0 ∨ k = 1 by omega) with rfl | rfl
        · go_wp2
          go_roundg 1
          case rel => exact ⟨1, by omega, rfl, rfl, rfl⟩
          case measure => omega
        · go_wp2
          go_ret
          exact ⟨rfl, rfl⟩
  · have d1 : (x != 0) = true := by simpa using h1
    have e1 : orT x y = x := by unfold orT; rw [if_pos h1]
    rw [e1]
    clear e1
    have h1 := hid h1
    go_enter Try.func54, Try.ntmps54
    go_wp2
    go_loopg [8, 5] 1 (fun g i u5 wr => g = 1 ∧ i = .int .i64 0 ∧ wr = w)
    case atStart => exact ⟨rfl, rfl, rfl⟩
    case round =>
      obtain ⟨hg, rfl, rfl⟩ := hrel
      go_wp2
      go_ret
      exact ⟨rfl, rfl⟩
/-- How many were set ahead of a key. -/
def setD (D : DataW Unit) (x : Int) : Int := match D.atKey (.int .i64 x) (waitD 0 0) with | .agg [_, .lit (.int .i64 s)] => s | _ => 0
theorem WheelAt.look {w : World} {wb mb n : Nat} {D : DataW Unit} {s : Int} (h : WheelAt w wb mb n D s) {x : Int} (hx : isInt x) :
    (Instr.lookup 83 (.map (some mb)) (.int .i64 x) false).run Try.prog w = .ok (.agg #[.int .i64 (untilD D x), .int .i64 (setD D x)]) w := by
  obtain ⟨es, clock, hb, F, _, hD⟩ := h.map
  have fin : ∀ v ps, (Instr.lookup 83 (.map (some mb)) (.int .i64 x) false).run Try.prog w = .ok v w → waitElem v = some (D.atKey (.int .i64 x) (waitD 0 0), ps) → (Instr.lookup 83 (.map (some mb)) (.int .i64 x) false).run Try.prog w = .ok (.agg #[.int .i64 (untilD D x), .int .i64 (setD D x)]) w := by
    intro v ps h1 h2
    obtain ⟨u, s', rfl, hd⟩ := waitElem_inv h2
    have hu : untilD D x = u := by unfold untilD; rw [hd]; rfl
    have hs : setD D x = s' := by unfold setD; rw [hd]; rfl
    rw [hu, hs]; exact h1
  rcases Maps.fit_look false lawI Try.underlying83 (zeroW w) hb F (keyI hx) with ⟨hrun, _, hat⟩ | ⟨e0, y, _, _, hrun, hRv, hat, _⟩
  · exact fin _ [] hrun (by rw [hD, hat]; rfl)
  · exact fin _ y.2 hrun (by rw [hD, hat]; exact hRv)
/-- By what the keys are sorted. -/
def cfW (D : DataW Unit) (x y : Int) : Int := orT (cmpT (untilD D x) (untilD D y)) (cmpT (setD D x) (setD D y))
def ltW (D : DataW Unit) (x y : Int) : Prop := untilD D x < untilD D y ∨ untilD D x = untilD D y ∧ setD D x < setD D y
theorem cfW_lt (D : DataW Unit) (x y : Int) : decide (cfW D x y < 0) = true ↔ ltW D x y := by
  rw [decide_eq_true_eq]
  unfold cfW orT cmpT ltW
  by_cases h1 : untilD D x < untilD D y
  · simp [h1]
  · by_cases h2 : untilD D y < untilD D x
    · simp [h1, h2]; omega
    · have e : untilD D x = untilD D y := by omega
      by_cases h3 : setD D x < setD D y
      · simp [h1, h2, h3, e]
      · by_cases h4 : setD D y < setD D x <;> simp [h1, h2, h3, h4, e]
abbrev IntN : Type := { x : Int // isInt x }
instance IntN.inh : Inhabited IntN := ⟨⟨0, by unfold isInt; omega⟩⟩
def encN (x : IntN) : Value := .int .i64 x.1
def cfN (D : DataW Unit) (x y : IntN) : Int := cfW D x.1 y.1
theorem swoN (D : DataW Unit) : SWO (ltOf (cfN D)) := by
  have key : ∀ x y : IntN, ltOf (cfN D) x y = true ↔ ltW D x.1 y.1 := fun x y => cfW_lt D x.1 y.1
  have keyF : ∀ x y : IntN, ltOf (cfN D) x y = false ↔ ¬ ltW D x.1 y.1 := fun x y => by rw [← key]; cases ltOf (cfN D) x y <;> simp
  refine ⟨fun x => ?_, fun x y z h1 h2 => ?_, fun x y z h1 h2 => ?_⟩
  · rw [keyF]; unfold ltW; omega
  · rw [key] at *; unfold ltW at *; omega
  · rw [keyF] at *; unfold ltW at *; omega
theorem at2 {w u : World} {b : Nat} {v : Value} (hg : Gr w u) (hb : b < w.heap.size) (h : w.cell? ⟨b, 0, none⟩ = some v) : u.cell? ⟨b, 0, none⟩ = some v := (hg.below.cell (p := ⟨b, 0, none⟩) hb).trans h
set_option maxRecDepth 100000 in
theorem fldU (w : World) (a b : Int) : (Instr.field 87 (.agg #[.int .i64 a, .int .i64 b]) 0).run Try.prog w = .ok (.int .i64 a) w := by kernel_rfl
set_option maxRecDepth 100000 in
theorem fldS (w : World) (a b : Int) : (Instr.field 87 (.agg #[.int .i64 a, .int .i64 b]) 1).run Try.prog w = .ok (.int .i64 b) w := by kernel_rfl
def OrBox (x y : Int) (u : World) (v : Value) : Prop := ∃ b, v = .slice (some ⟨b, 0, none⟩) 2 2 ∧ pts u b [.int .i64 x, .int .i64 y] 3
set_option maxRecDepth 100000 in
set_option maxHeartbeats 1000000 in
theorem keys1_c {w : World} {wb mb n bx : Nat} {D : DataW Unit} {s : Int} (h : WheelAt w wb mb n D s) (hbx : bx < w.heap.size) (hc : w.cell? ⟨bx, 0, none⟩ = some (.pointer (some ⟨wb, 0, none⟩))) {x y : Int} (hx : isInt x) (hy : isInt y) :
    Calls Try.prog 53 #[.int .i64 x, .int .i64 y, .pointer (some ⟨bx, 0, none⟩)] w fun e w' => e = .returned (.int .i64 (cfW D x y)) ∧ Gr w w' := by
  go_enter Try.func53, Try.ntmps53
  go_upto_region 1 with fail
  have hcu := fun u (hb : Gr w u) => at2 hb hbx hc
  have hmu := fun u (hb : Gr w u) => at2 hb h.lt.1 (show w.cell? ⟨wb, 0, none⟩ = some (.map (some mb)) by have := h.at_.cell 0; simpa using this)
  have hbl := fun u (hb : Gr w u) => Nat.lt_of_lt_of_le hbx hb.below.size
  have hwl := fun u (hb : Gr w u) => Nat.lt_of_lt_of_le h.lt.1 hb.below.size
  have hlx := fun u (hb : Gr w u) => (h.below hb.below).look hx
  have hly := fun u (hb : Gr w u) => (h.below hb.below).look hy
  -- REG (*empennage/wheel.Wheel).Keys$1|1|Keys1.1
  refine region_gr 33 [Sp.eq (.pointer (some ⟨wb, 0, none⟩)), Sp.eq (.pointer (some ⟨wb, 0, none⟩)), Sp.eq (.pointer (some ⟨wb, 0, none⟩)), Sp.eq (.map (some mb)), Sp.eq (.int .i64 x), Sp.eq (.agg #[.int .i64 (untilD D x), .int .i64 (setD D x)]), Sp.eq (.int .i64 (untilD D x)), Sp.eq (.pointer (some ⟨wb, 0, none⟩)), Sp.eq (.pointer (some ⟨wb, 0, none⟩)), Sp.eq (.pointer (some ⟨wb, 0, none⟩)), Sp.eq (.map (some mb)), Sp.eq (.int .i64 y), Sp.eq (.agg #[.int .i64 (untilD D y), .int .i64 (setD D y)]), Sp.eq (.int .i64 (untilD D y)), Sp.eq (.int .i64 (cmpT (untilD D x) (untilD D y))), Sp.eq (.pointer (some ⟨wb, 0, none⟩)), Sp.eq (.pointer (some ⟨wb, 0, none⟩)), Sp.eq (.pointer (some ⟨wb, 0, none⟩)), Sp.eq (.map (some mb)), Sp.eq (.int .i64 x), Sp.eq (.agg #[.int .i64 (untilD D x), .int .i64 (setD D x)]), Sp.eq (.int .i64 (setD D x)), Sp.eq (.pointer (some ⟨wb, 0, none⟩)), Sp.eq (.pointer (some ⟨wb, 0, none⟩)), Sp.eq (.pointer (some ⟨wb, 0, none⟩)), Sp.eq (.map (some mb)), Sp.eq (.int .i64 y), Sp.eq (.agg #[.int .i64 (untilD D y), .int .i64 (setD D y)]), Sp.eq (.int .i64 (setD D y)), Sp.eq (.int .i64 (cmpT (setD D x) (setD D y))), Sp.of (fun v u => OrBox (cmpT (untilD D x) (untilD D y)) (cmpT (setD D x) (setD D y)) u v) (fun v w w' h hb => (let ⟨b, e1, e2⟩ := h; ⟨b, e1, e2.below hb⟩)), Sp.eq (.int .i64 (cfW D x y)), Sp.eq (.int .i64 (cfW D x y))] (fun _ _ _ _ _ h => h) (by kernel_rfl) (by kernel_rfl) ⟨?_, ?_, ?_, ?_, ?_, ?_, ?_, ?_, ?_, ?_, ?_, ?_, ?_, ?_, ?_, ?_, ?_, ?_, ?_, ?_, ?_, ?_, ?_, ?_, ?_, ?_, ?_, ?_, ?_, ?_, ?_, ?_, ?_, trivial⟩ ?_
  · intro ac u hb h
    have e2 : ac.tmps[2]?.getD undef = .pointer (some ⟨bx, 0, none⟩) := h.inm 2 rfl rfl
    refine opFree rfl ?_
    exact relRun (v := .pointer (some ⟨wb, 0, none⟩)) (w' := u) (by simp [go_sem, e2, (hcu u hb), (hbl u hb)]) (okG0 rfl)
  · intro ac u hb h
    have e6 : ac.tmps[6]?.getD undef = .pointer (some ⟨wb, 0, none⟩) := h.tm 0 6 rfl rfl
    refine opFree rfl ?_
    exact relRun (v := .pointer (some ⟨wb, 0, none⟩)) (w' := u) (by simp [go_sem, e6]) (okG0 rfl)
  · intro ac u hb h
    have e7 : ac.tmps[7]?.getD undef = .pointer (some ⟨wb, 0, none⟩) := h.tm 1 7 rfl rfl
    refine opFree rfl ?_
    exact relRun (v := .pointer (some ⟨wb, 0, none⟩)) (w' := u) (by simp [go_sem, e7]) (okG0 rfl)
  · intro ac u hb h
    have e8 : ac.tmps[8]?.getD undef = .pointer (some ⟨wb, 0, none⟩) := h.tm 2 8 rfl rfl
    refine opFree rfl ?_
    exact relRun (v := .map (some mb)) (w' := u) (by simp [go_sem, e8, (hmu u hb), (hwl u hb)]) (okG0 rfl)
  · intro ac u hb h
    have e0 : ac.tmps[0]?.getD undef = .int .i64 x := h.inm 0 rfl rfl
    refine opFree rfl ?_
    exact relMoveT _ rfl e0 (okG0 rfl)
  · intro ac u hb h
    have e9 : ac.tmps[9]?.getD undef = .map (some mb) := h.tm 3 9 rfl rfl
    have e10 : ac.tmps[10]?.getD undef = .int .i64 x := h.tm 4 10 rfl rfl
    refine opFree rfl ?_
    exact relRun (v := .agg #[.int .i64 (untilD D x), .int .i64 (setD D x)]) (w' := u) (by simp [go_sem, e9, e10, (hlx u hb)]) (okG0 rfl)
  · intro ac u hb h
    have e11 : ac.tmps[11]?.getD undef = .agg #[.int .i64 (untilD D x), .int .i64 (setD D x)] := h.tm 5 11 rfl rfl
    refine opFree rfl ?_
    exact relRun (v := .int .i64 (untilD D x)) (w' := u) (by simp [go_sem, e11, fldU]) (okG0 rfl)
  · intro ac u hb h
    have e2 : ac.tmps[2]?.getD undef = .pointer (some ⟨bx, 0, none⟩) := h.inm 2 rfl rfl
    refine opFree rfl ?_
    exact relRun (v := .pointer (some ⟨wb, 0, none⟩)) (w' := u) (by simp [go_sem, e2, (hcu u hb), (hbl u hb)]) (okG0 rfl)
  · intro ac u hb h
    have e13 : ac.tmps[13]?.getD undef = .pointer (some ⟨wb, 0, none⟩) := h.tm 7 13 rfl rfl
    refine opFree rfl ?_
    exact relRun (v := .pointer (some ⟨wb, 0, none⟩)) (w' := u) (by simp [go_sem, e13]) (okG0 rfl)
  · intro ac u hb h
    have e14 : ac.tmps[14]?.getD undef = .pointer (some ⟨wb, 0, none⟩) := h.tm 8 14 rfl rfl
    refine opFree rfl ?_
    exact relRun (v := .pointer (some ⟨wb, 0, none⟩)) (w' := u) (by simp [go_sem, e14]) (okG0 rfl)
  · intro ac u hb h
    have e15 : ac.tmps[15]?.getD undef = .pointer (some ⟨wb, 0, none⟩) := h.tm 9 15 rfl rfl
    refine opFree rfl ?_
    exact relRun (v := .map (some mb)) (w' := u) (by simp [go_sem, e15, (hmu u hb), (hwl u hb)]) (okG0 rfl)
  · intro ac u hb h
    have e1 : ac.tmps[1]?.getD undef = .int .i64 y := h.inm 1 rfl rfl
    refine opFree rfl ?_
    exact relMoveT _ rfl e1 (okG0 rfl)
  · intro ac u hb h
    have e16 : ac.tmps[16]?.getD undef = .map (some mb) := h.tm 10 16 rfl rfl
    have e17 : ac.tmps[17]?.getD undef = .int .i64 y := h.tm 11 17 rfl rfl
    refine opFree rfl ?_
    exact relRun (v := .agg #[.int .i64 (untilD D y), .int .i64 (setD D y)]) (w' := u) (by simp [go_sem, e16, e17, (hly u hb)]) (okG0 rfl)
  · intro ac u hb h
    have e18 : ac.tmps[18]?.getD undef = .agg #[.int .i64 (untilD D y), .int .i64 (setD D y)] := h.tm 12 18 rfl rfl
    refine opFree rfl ?_
    exact relRun (v := .int .i64 (untilD D y)) (w' := u) (by simp [go_sem, e18, fldU]) (okG0 rfl)
  · intro ac u hb h
    have e12 : ac.tmps[12]?.getD undef = .int .i64 (untilD D x) := h.tm 6 12 rfl rfl
    have e19 : ac.tmps[19]?.getD undef = .int .i64 (untilD D y) := h.tm 13 19 rfl rfl
    refine opFree rfl ?_
    refine relCall (f := _) (args := #[.int .i64 (untilD D x), .int .i64 (untilD D y)]) (by simp [go_sem, e12, e19]; rfl) ?_
    refine (compare_c u _ _).mono ?_
    rintro e w' ⟨rfl, rfl⟩
    exact ⟨_, rfl, okG0 rfl⟩
  · intro ac u hb h
    have e2 : ac.tmps[2]?.getD undef = .pointer (some ⟨bx, 0, none⟩) := h.inm 2 rfl rfl
    refine opFree rfl ?_
    exact relRun (v := .pointer (some ⟨wb, 0, none⟩)) (w' := u) (by simp [go_sem, e2, (hcu u hb), (hbl u hb)]) (okG0 rfl)
  · intro ac u hb h
    have e21 : ac.tmps[21]?.getD undef = .pointer (some ⟨wb, 0, none⟩) := h.tm 15 21 rfl rfl
    refine opFree rfl ?_
    exact relRun (v := .pointer (some ⟨wb, 0, none⟩)) (w' := u) (by simp [go_sem, e21]) (okG0 rfl)
  · intro ac u hb h
    have e22 : ac.tmps[22]?.getD undef = .pointer (some ⟨wb, 0, none⟩) := h.tm 16 22 rfl rfl
    refine opFree rfl ?_
    exact relRun (v := .pointer (some ⟨wb, 0, none⟩)) (w' := u) (by simp [go_sem, e22]) (okG0 rfl)
  · intro ac u hb h
    have e23 : ac.tmps[23]?.getD undef = .pointer (some ⟨wb, 0, none⟩) := h.tm 17 23 rfl rfl
    refine opFree rfl ?_
    exact relRun (v := .map (some mb)) (w' := u) (by simp [go_sem, e23, (hmu u hb), (hwl u hb)]) (okG0 rfl)
  · intro ac u hb h
    have e0 : ac.tmps[0]?.getD undef = .int .i64 x := h.inm 0 rfl rfl
    refine opFree rfl ?_
    exact relMoveT _ rfl e0 (okG0 rfl)
  · intro ac u hb h
    have e24 : ac.tmps[24]?.getD undef = .map (some mb) := h.tm 18 24 rfl rfl
    have e25 : ac.tmps[25]?.getD undef = .int .i64 x := h.tm 19 25 rfl rfl
    refine opFree rfl ?_
    exact relRun (v := .agg #[.int .i64 (untilD D x), .int .i64 (setD D x)]) (w' := u) (by simp [go_sem, e24, e25, (hlx u hb)]) (okG0 rfl)
  · intro ac u hb h
    have e26 : ac.tmps[26]?.getD undef = .agg #[.int .i64 (untilD D x), .int .i64 (setD D x)] := h.tm 20 26 rfl rfl
    refine opFree rfl ?_
    exact relRun (v := .int .i64 (setD D x)) (w' := u) (by simp [go_sem, e26, fldS]) (okG0 rfl)
  · intro ac u hb h
    have e2 : ac.tmps[2]?.getD undef = .pointer (some ⟨bx, 0, none⟩) := h.inm 2 rfl rfl
    refine opFree rfl ?_
    exact relRun (v := .pointer (some ⟨wb, 0, none⟩)) (w' := u) (by simp [go_sem, e2, (hcu u hb), (hbl u hb)]) (okG0 rfl)
  · intro ac u hb h
    have e28 : ac.tmps[28]?.getD undef = .pointer (some ⟨wb, 0, none⟩) := h.tm 22 28 rfl rfl
    refine opFree rfl ?_
    exact relRun (v := .pointer (some ⟨wb, 0, none⟩)) (w' := u) (by simp [go_sem, e28]) (okG0 rfl)
  · intro ac u hb h
    have e29 : ac.tmps[29]?.getD undef = .pointer (some ⟨wb, 0, none⟩) := h.tm 23 29 rfl rfl
    refine opFree rfl ?_
    exact relRun (v := .pointer (some ⟨wb, 0, none⟩)) (w' := u) (by simp [go_sem, e29]) (okG0 rfl)
  · intro ac u hb h
    have e30 : ac.tmps[30]?.getD undef = .pointer (some ⟨wb, 0, none⟩) := h.tm 24 30 rfl rfl
    refine opFree rfl ?_
    exact relRun (v := .map (some mb)) (w' := u) (by simp [go_sem, e30, (hmu u hb), (hwl u hb)]) (okG0 rfl)
  · intro ac u hb h
    have e1 : ac.tmps[1]?.getD undef = .int .i64 y := h.inm 1 rfl rfl
    refine opFree rfl ?_
    exact relMoveT _ rfl e1 (okG0 rfl)
  · intro ac u hb h
    have e31 : ac.tmps[31]?.getD undef = .map (some mb) := h.tm 25 31 rfl rfl
    have e32 : ac.tmps[32]?.getD undef = .int .i64 y := h.tm 26 32 rfl rfl
    refine opFree rfl ?_
    exact relRun (v := .agg #[.int .i64 (untilD D y), .int .i64 (setD D y)]) (w' := u) (by simp [go_sem, e31, e32, (hly u hb)]) (okG0 rfl)
  · intro ac u hb h
    have e33 : ac.tmps[33]?.getD undef = .agg #[.int .i64 (untilD D y), .int .i64 (setD D y)] := h.tm 27 33 rfl rfl
    refine opFree rfl ?_
    exact relRun (v := .int .i64 (setD D y)) (w' := u) (by simp [go_sem, e33, fldS]) (okG0 rfl)
  · intro ac u hb h
    have e27 : ac.tmps[27]?.getD undef = .int .i64 (setD D x) := h.tm 21 27 rfl rfl
    have e34 : ac.tmps[34]?.getD undef = .int .i64 (setD D y) := h.tm 28 34 rfl rfl
    refine opFree rfl ?_
    refine relCall (f := _) (args := #[.int .i64 (setD D x), .int .i64 (setD D y)]) (by simp [go_sem, e27, e34]; rfl) ?_
    refine (compare_c u _ _).mono ?_
    rintro e w' ⟨rfl, rfl⟩
    exact ⟨_, rfl, okG0 rfl⟩
  · intro ac u hb h
    have e20 : ac.tmps[20]?.getD undef = .int .i64 (cmpT (untilD D x) (untilD D y)) := h.tm 14 20 rfl rfl
    have e35 : ac.tmps[35]?.getD undef = .int .i64 (cmpT (setD D x) (setD D y)) := h.tm 29 35 rfl rfl
    refine opFree rfl ?_
    exact relRun (v := .slice (some ⟨u.heap.size, 0, none⟩) 2 2) (w' := u.alloc (.cells #[.int .i64 (cmpT (untilD D x) (untilD D y)), .int .i64 (cmpT (setD D x) (setD D y))] 3)) (by simp [go_sem, e20, e35]) ⟨Gr.alloc _ _, _, rfl, pts.newA u _ _⟩
  · intro ac u hb h
    have e36 := h.tm 30 36 rfl rfl
    refine opFree rfl ?_
    obtain ⟨b, hx1, hx2⟩ := e36
    refine relCall (f := _) (args := #[.slice (some ⟨b, 0, none⟩) 2 2]) (by simp [go_sem, hx1]; rfl) ?_
    refine (or_c hx2).mono ?_
    rintro e w' ⟨rfl, rfl⟩
    exact ⟨_, rfl, okG0 rfl⟩
  · intro ac u hb h
    have e37 : ac.tmps[37]?.getD undef = .int .i64 (cfW D x y) := h.tm 31 37 rfl rfl
    refine opFree rfl ?_
    exact relAssignT _ rfl e37 (okG0 rfl)
  intro vs u hb hr
  have r0 : vs 0 = .pointer (some ⟨wb, 0, none⟩) := hr 0 (by decide)
  have r1 : vs 1 = .pointer (some ⟨wb, 0, none⟩) := hr 1 (by decide)
  have r2 : vs 2 = .pointer (some ⟨wb, 0, none⟩) := hr 2 (by decide)
  have r3 : vs 3 = .map (some mb) := hr 3 (by decide)
  have r4 : vs 4 = .int .i64 x := hr 4 (by decide)
  have r5 : vs 5 = .agg #[.int .i64 (untilD D x), .int .i64 (setD D x)] := hr 5 (by decide)
  have r6 : vs 6 = .int .i64 (untilD D x) := hr 6 (by decide)
  have r7 : vs 7 = .pointer (some ⟨wb, 0, none⟩) := hr 7 (by decide)
  have r8 : vs 8 = .pointer (some ⟨wb, 0, none⟩) := hr 8 (by decide)
  have r9 : vs 9 = .pointer (some ⟨wb, 0, none⟩) := hr 9 (by decide)
  have r10 : vs 10 = .map (some mb) := hr 10 (by decide)
  have r11 : vs 11 = .int .i64 y := hr 11 (by decide)
  have r12 : vs 12 = .agg #[.int .i64 (untilD D y), .int .i64 (setD D y)] := hr 12 (by decide)
  have r13 : vs 13 = .int .i64 (untilD D y) := hr 13 (by decide)
  have r14 : vs 14 = .int .i64 (cmpT (untilD D x) (untilD D y)) := hr 14 (by decide)
  have r15 : vs 15 = .pointer (some ⟨wb, 0, none⟩) := hr 15 (by decide)
  have r16 : vs 16 = .pointer (some ⟨wb, 0, none⟩) := hr 16 (by decide)
  have r17 : vs 17 = .pointer (some ⟨wb, 0, none⟩) := hr 17 (by decide)
  have r18 : vs 18 = .map (some mb) := hr 18 (by decide)
  have r19 : vs 19 = .int .i64 x := hr 19 (by decide)
  have r20 : vs 20 = .agg #[.int .i64 (untilD D x), .int .i64 (setD D x)] := hr 20 (by decide)
  have r21 : vs 21 = .int .i64 (setD D x) := hr 21 (by decide)
  have r22 : vs 22 = .pointer (some ⟨wb, 0, none⟩) := hr 22 (by decide)
  have r23 : vs 23 = .pointer (some ⟨wb, 0, none⟩) := hr 23 (by decide)
  have r24 : vs 24 = .pointer (some ⟨wb, 0, none⟩) := hr 24 (by decide)
  have r25 : vs 25 = .map (some mb) := hr 25 (by decide)
  have r26 : vs 26 = .int .i64 y := hr 26 (by decide)
  have r27 : vs 27 = .agg #[.int .i64 (untilD D y), .int .i64 (setD D y)] := hr 27 (by decide)
  have r28 : vs 28 = .int .i64 (setD D y) := hr 28 (by decide)
  have r29 : vs 29 = .int .i64 (cmpT (setD D x) (setD D y)) := hr 29 (by decide)
  have r30 := hr 30 (by decide)
  have r31 : vs 31 = .int .i64 (cfW D x y) := hr 31 (by decide)
  have r32 : vs 32 = .int .i64 (cfW D x y) := hr 32 (by decide)
  simp only [List.take_succ_cons, List.take_zero, List.drop_succ_cons, List.drop_zero, putOps, r0, r1, r2, r3, r4, r5, r6, r7, r8, r9, r10, r11, r12, r13, r14, r15, r16, r17, r18, r19, r20, r21, r22, r23, r24, r25, r26, r27, r28, r29, r31, r32]
  simp only [Act.put, List.setIfInBounds_toArray, List.set_cons_succ, List.set_cons_zero]
  clear hr r0 r1 r2 r3 r4 r5 r6 r7 r8 r9 r10 r11 r12 r13 r14 r15 r16 r17 r18 r19 r20 r21 r22 r23 r24 r25 r26 r27 r28 r29 r31 r32
  refine wpList_nil ?_
  -- GER
  go_wp2
  go_ret
  exact ⟨rfl, hb⟩
end Go.Proofs.Ytnlmkllhmldgiaa.Wh
