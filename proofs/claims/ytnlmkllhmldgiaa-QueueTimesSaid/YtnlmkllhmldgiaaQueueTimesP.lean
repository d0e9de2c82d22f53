/- DERIVED. Plain words for the statement QueueTimes: processes 0, 1, .. wait; who has been told. No program is in sight; no statement is proved here. -/
import Derived.Test.YtnlmkllhmldgiaaQueueV
import Derived.Test.YtnlmkllhmldgiaaWheelAgainP
import Derived.Laws.OwnMore
namespace Go.Proofs.Ytnlmkllhmldgiaa.Qu
set_option linter.unusedVariables false
set_option linter.unusedSimpArgs false
open Go.RowKit Go.Maps Go.Proofs.Ytnlmkllhmldgiaa.K Go.Proofs.Ytnlmkllhmldgiaa.Lb Go.Proofs.Ytnlmkllhmldgiaa.Wh
theorem cutBy {n m : Int} (h : 0 < m ∧ m ≤ 100) : wrap64 ((IntKind.u64.wrap n).tmod m) = (n % 18446744073709551616) % m := by
  have h1 := Int.emod_lt_of_pos (n % 18446744073709551616) h.1
  have h2 := Int.emod_nonneg (n % 18446744073709551616) (Int.ne_of_gt h.1)
  rw [IntKind.wrap_u64, Int.tmod_eq_emod_of_nonneg (by omega)]; unfold wrap64; omega
/-- Until when process i waits. -/
def xQ (xs : List Int) (i : Nat) : Int := (xs.getD i 0 % 18446744073709551616) % 100
def uQ (xs : List Int) (i : Nat) : Int := 1 + xQ xs i
theorem xQ_in (xs : List Int) (i : Nat) : 0 ≤ xQ xs i ∧ xQ xs i < 100 := by unfold xQ; omega
theorem uQ_in (xs : List Int) (i : Nat) : 1 ≤ uQ xs i ∧ uQ xs i ≤ 100 := by unfold uQ; have := xQ_in xs i; omega
theorem xQ_eq {xs : List Int} {i : Nat} (h : i < xs.length) : wrap64 ((IntKind.u64.wrap xs[i]).tmod 100) = xQ xs i := by
  rw [cutBy (by omega)]
  unfold xQ
  rw [List.getD_eq_getElem?_getD, List.getElem?_eq_getElem h]
  rfl
theorem cut20 {x : Int} : ∃ d, 0 ≤ d ∧ d < 20 ∧ wrap64 ((IntKind.u64.wrap x).tmod 20) = d := ⟨(x % 18446744073709551616) % 20, by omega, by omega, cutBy (by omega)⟩
structure TInv (xs : List Int) (n : Nat) (now : Int) (p : Prt) : Prop where
  ms : p.ms = []
  hold : p.hold = 1
  s : p.s ≤ n
  es : ∀ e ∈ p.es, ∃ i : Nat, i < n ∧ e.k = i ∧ e.u = uQ xs i ∧ now < e.u
section
variable {xs : List Int} {n : Nat} {now : Int} {p : Prt}
theorem TInv.start (xs : List Int) : TInv xs 0 0 (newP 1) := ⟨rfl, rfl, Int.le_refl _, fun e he => by cases he⟩
theorem TInv.row (h : TInv xs n now p) (hI : PInv p) {x : Int} (hx : x ∈ p.row) : ∃ i : Nat, i < n ∧ x = i := by
  obtain ⟨e, he, rfl⟩ := List.mem_map.1 (hI.perm.mem_iff.1 hx)
  obtain ⟨i, hi, hk, _⟩ := h.es e he
  exact ⟨i, hi, hk⟩
theorem TInv.ask {i : Nat} (h : TInv xs i 0 p) (hI : PInv p) (hs : p.s = i) : ∃ p', askP p i (uQ xs i) 0 = (p', zeroP, 6) ∧ TInv xs (i + 1) 0 p' ∧ p'.row = p.row ++ [(i : Int)] ∧ p'.s = (i : Int) + 1 := by
  have hn : (i : Int) ∉ p.row := fun hx => by obtain ⟨j, hj, he⟩ := h.row hI hx; omega
  have hu := uQ_in xs i
  have hl : lateT 0 (uQ xs i) = false := by unfold lateT cutT; simp only [decide_eq_false_iff_not]; omega
  refine ⟨{ p with row := p.row ++ [(i : Int)], es := setE p.es i (cutT (uQ xs i)) (p.s + 1), s := p.s + 1 }, ?_, ⟨h.ms, h.hold, by show p.s + 1 ≤ _; omega, fun e he => ?_⟩, rfl, by show p.s + 1 = _; omega⟩
  · unfold askP
    rw [if_neg hn, h.ms]
    simp only [hl, Bool.false_eq_true, if_false]
  · rcases mem_set.1 he with rfl | ⟨h1, -⟩
    · exact ⟨i, by omega, rfl, by simp only [cutT]; omega, by simp only [cutT]; omega⟩
    · obtain ⟨j, hj, e1⟩ := h.es e h1
      exact ⟨j, by omega, e1⟩
theorem TInv.putRow (h : TInv xs n now p) (hn : n ≤ 30) (hI : PInv p) {x : Int} {r : List Int} (hr : p.row = x :: r) (m : Msg) : ∃ p', putP p m = (p', x, true, 0) ∧ TInv xs n now p' ∧ p'.row = butT p.row x ∧ askP p' 99 0 0 = (p', zeroP, 2) := by
  refine ⟨{ p with row := butT p.row x, es := rmE x p.es }, by unfold putP; rw [hr], ⟨h.ms, h.hold, h.s, fun e he => h.es e (mem_rmE.1 he).1⟩, rfl, ?_⟩
  have hn : (99 : Int) ∉ butT p.row x := fun hx => by
    obtain ⟨j, hj, he⟩ := h.row hI (List.mem_filter.1 hx).1
    omega
  have hl : lateT 0 0 = true := rfl
  unfold askP
  simp only
  rw [if_neg hn, h.ms]
  simp only [hl, if_true]
theorem TInv.putNil (h : TInv xs n now p) (hr : p.row = []) (m : Msg) : ∃ p', putP p m = (p', 0, false, 0) ∧ askP p' 99 0 0 = (p, m, 0) := by
  obtain ⟨hold, ms, row, es, s⟩ := p
  have h1 := h.ms
  have h2 := h.hold
  simp only at h1 h2 hr
  subst h1 h2 hr
  exact ⟨⟨1, [m], [], es, s⟩, rfl, rfl⟩
theorem TInv.late (h : TInv xs n now p) {now' : Int} (h1 : 0 ≤ now' ∧ now' ≤ 1000) {e : Ent} (he : e ∈ p.es) : lateE now' e = decide (e.u ≤ now') := by
  obtain ⟨i, _, _, hu, _⟩ := h.es e he
  have := uQ_in xs i
  unfold lateE lateT cutT
  congr 1
  simp only [eq_iff_iff]; omega
theorem TInv.exp (h : TInv xs n now p) {now' : Int} (h1 : 0 ≤ now' ∧ now' ≤ 1000) : TInv xs n now' (expP p now') := by
  refine ⟨h.ms, h.hold, h.s, fun e he => ?_⟩
  obtain ⟨h2, h3⟩ := List.mem_filter.1 he
  obtain ⟨i, hi, hk, hu, _⟩ := h.es e h2
  rw [h.late h1 h2] at h3
  exact ⟨i, hi, hk, hu, by simp only [Bool.not_eq_true', decide_eq_false_iff_not] at h3; omega⟩
/-- Whom an Expire tells. -/
theorem TInv.told (h : TInv xs n now p) {now' : Int} (h1 : 0 ≤ now' ∧ now' ≤ 1000) {x : Int} (hx : x ∈ keysE (p.es.filter (lateE now'))) : ∃ q : Nat, q < n ∧ x = q ∧ uQ xs q ≤ now' ∧ now < uQ xs q := by
  obtain ⟨e, he, rfl⟩ := List.mem_map.1 hx
  obtain ⟨h2, h3⟩ := List.mem_filter.1 he
  obtain ⟨i, hi, hk, hu, hn⟩ := h.es e h2
  rw [h.late h1 h2] at h3
  exact ⟨i, hi, hk, by simp only [decide_eq_true_eq] at h3; omega, by omega⟩
end
/-- Who has been told: those that wait no more. -/
def seenR (n : Nat) (row : List Int) : List Value := (List.range n).map (fun (k : Nat) => Value.bool (!row.contains (k : Int)))
theorem seenR_get {n k : Nat} {row : List Int} (h : k < n) : (seenR n row)[k]? = some (.bool (!row.contains (k : Int))) := by unfold seenR; simp [h]
theorem seenR_len (n : Nat) (row : List Int) : (seenR n row).length = n := by unfold seenR; simp
theorem seenR_set {n k : Nat} {row : List Int} (hk : k < n) : (seenR n row).set k (.bool true) = seenR n (butT row k) := by
  apply List.ext_getElem?
  intro j
  rw [List.getElem?_set, seenR_len]
  by_cases hj : k = j
  · subst hj
    rw [if_pos rfl, if_pos hk, seenR_get hk]
    have : (butT row (k : Int)).contains (k : Int) = false := by
      rw [← Bool.not_eq_true, List.contains_iff_mem]
      intro hm
      have := (List.mem_filter.1 hm).2
      simp at this
    rw [this]; rfl
  · rw [if_neg hj]
    by_cases hjn : j < n
    · rw [seenR_get hjn, seenR_get hjn]
      have : (butT row (k : Int)).contains (j : Int) = row.contains (j : Int) := by
        rw [Bool.eq_iff_iff, List.contains_iff_mem, List.contains_iff_mem]
        constructor
        · intro hm; exact (List.mem_filter.1 hm).1
        · intro hm; exact List.mem_filter.2 ⟨hm, by simp; omega⟩
      rw [this]
    · rw [List.getElem?_eq_none (by rw [seenR_len]; omega), List.getElem?_eq_none (by rw [seenR_len]; omega)]
theorem seenR_start {n : Nat} {row : List Int} (h : ∀ k : Nat, k < n → (k : Int) ∈ row) : List.replicate n (Value.bool false) = seenR n row := by
  apply List.ext_getElem?
  intro j
  by_cases hj : j < n
  · rw [seenR_get hj, List.contains_iff_mem.2 (h j hj)]; simp [hj]
  · rw [List.getElem?_eq_none (by simp; omega), List.getElem?_eq_none (by rw [seenR_len]; omega)]
theorem but_one {row : List Int} {x : Int} (hn : row.Nodup) (hx : x ∈ row) : (butT row x).length + 1 = row.length := by
  have h : butT row x = row.erase x := by
    unfold butT
    exact (hn.erase_eq_filter x).symm
  rw [h, List.length_erase_of_mem hx]
  have := List.length_pos_of_mem hx
  omega
theorem exp_len {p : Prt} (hI : PInv p) (hn : (keysE p.es).Nodup) (now : Int) : (keysE (p.es.filter (lateE now))).length + (expP p now).row.length = p.row.length := by
  have h1 := (hI.exp hn now).perm.length_eq
  have h2 := hI.perm.length_eq
  have h3 := (List.filter_append_perm (lateE now) p.es).length_eq
  rw [List.length_append] at h3
  have h4 : (expP p now).es = p.es.filter (fun e => !lateE now e) := rfl
  rw [h4] at h1
  unfold keysE at *
  rw [List.length_map] at *
  omega
/-- The k-th told is among those left. -/
theorem told_in {row L : List Int} (hL : L.Nodup) (hs : ∀ x ∈ L, x ∈ row) {k : Nat} (hk : k < L.length) : L[k] ∈ (L.take k).foldl butT row := by
  rw [foldBut, List.mem_filter]
  refine ⟨hs _ (List.getElem_mem hk), ?_⟩
  rw [Bool.not_eq_true', ← Bool.not_eq_true, List.contains_iff_mem]
  intro hm
  obtain ⟨j, hj, he⟩ := List.getElem_of_mem hm
  rw [List.length_take] at hj
  rw [List.getElem_take] at he
  have := List.pairwise_iff_getElem.1 hL j k (by omega) hk (by omega)
  exact this he
theorem take_but {row L : List Int} {k : Nat} (hk : k < L.length) : (L.take (k + 1)).foldl butT row = butT ((L.take k).foldl butT row) L[k] := by
  rw [List.take_succ_eq_append_getElem hk, List.foldl_append]; rfl
theorem StepP.next {B : Nat} {w0 w w' : World} {M W : Nat → Prop} {pb : Nat} {p' : Prt} (h : StepP w M W pb p' w') (hW : Wd B w0 w M) : ∃ M' W', PortF w' M' W' pb p' ∧ Wd B w0 w' M' ∧ (∀ b, b < w.heap.size → ¬ M b → ¬ M' b) ∧ Chg M w w' ∧ (∀ b, b < w.heap.size → ¬ W b → ¬ W' b) := by
  obtain ⟨M', hP, hM', _, hc⟩ := h
  exact ⟨M', _, hP, hW.turn hc hM' (fun b hb => hP.lt b (.inl hb)), fun b hb hn hm => (hM' b hm).elim hn (fun h => by omega), hc, fun b hb hn hw => hw.elim hn (fun h => by have := h.1; omega)⟩
theorem put_m {w : World} {M W : Nat → Prop} {pb : Nat} {p p' : Prt} {x c : Int} {b : Bool} (h : PortF w M W pb p) (he : putP p ⟨[], 0, 0, 1000, 0⟩ = (p', x, b, c)) : Calls Try.prog 12 #[.pointer (some ⟨pb, 0, none⟩), .agg #[.slice none 0 0, .int .i64 0, .int .i64 0, .int .i64 1000, .int .i64 0]] w fun e w' => e = .returned (.tuple #[.int .i64 x, .bool b, .int .i64 c]) ∧ StepP w M W pb p' w' := by
  have := put_x h (m := ⟨[], 0, 0, 1000, 0⟩) (IntsAt.nil (fun _ => True) w) (by simp)
  unfold PutX at this
  rw [he] at this
  exact this
theorem ask_m {w : World} {M W : Nat → Prop} {pb : Nat} {p p' : Prt} {m : Msg} {c : Int} (h : PortF w M W pb p) (he : askP p 99 0 0 = (p', m, c)) (hs : p.s ≤ 100) (hr : p.row.length ≤ 100) : Calls Try.prog 10 #[.pointer (some ⟨pb, 0, none⟩), .int .i64 99, .int .i64 0, .int .i64 0] w fun e w' => (∃ v, e = .returned v) ∧ StepP w M W pb p' w' := by
  have := ask_x h (x := 99) (by unfold isInt; omega) 0 0 (by omega) (by omega)
  unfold AskX at this
  rw [he] at this
  exact this.mono fun e w' ⟨a, c, he, _, hs⟩ => ⟨⟨_, he⟩, hs⟩
theorem putP_of' (p : Prt) (m : Msg) : (putP p m).1.s = p.s ∧ (putP p m).1.row.length ≤ p.row.length := by
  unfold putP
  cases h : p.row with
  | nil => simp only; split <;> simp [h]
  | cons x r => exact ⟨rfl, List.length_filter_le _ _⟩
theorem _root_.Go.Proofs.Ytnlmkllhmldgiaa.K.Wd.chgIn {base : Nat} {w0 w w' : World} {M N : Nat → Prop} (h : Wd base w0 w M) (hc : Chg N w w') (hN : ∀ b, N b → base ≤ b) : Wd base w0 w' M := ⟨h.below.trans (hc.toBelow h.le hN), h.ge, fun b hb => Nat.lt_of_lt_of_le (h.lt b hb) hc.size, Nat.le_trans h.le hc.size⟩
end Go.Proofs.Ytnlmkllhmldgiaa.Qu
