/- DERIVED. The walk over the statement QueueRow: messages go out in the row in which they came. -/
import Derived.Test.YtlefijfhhghikaaQueueF
namespace Go.Proofs.Ytlefijfhhghikaa.Qu
set_option linter.unusedVariables false
set_option linter.unusedSimpArgs false
open Go.RowKit Go.Maps Go.Proofs.Ytlefijfhhghikaa.K Go.Proofs.Ytlefijfhhghikaa.Lb Go.Proofs.Ytlefijfhhghikaa.Wh
/-- Ahead of step k: I have come, O have gone; those between are held, in their row; who waits has a number below k; none waits where one is held. -/
structure RowInv (ps : List (Value × Msg)) (xs : List Int) (I O k : Nat) : Prop where
  le : O ≤ I
  len : ps.length = I - O
  seq : ∀ j (h : j < ps.length), ps[j].2.seq = (O : Int) + j + 1
  low : ∀ x ∈ xs, 0 ≤ x ∧ x < k
  one : xs = [] ∨ ps = []
  few : xs.length ≤ k
  most : I ≤ k
theorem RowInv.start : RowInv [] [] 0 0 0 := ⟨by omega, rfl, fun j h => (by simp at h), fun x h => (by cases h), .inl rfl, by simp, by omega⟩
theorem RowInv.putRow {ps : List (Value × Msg)} {x : Int} {r : List Int} {I O k : Nat} (h : RowInv ps (x :: r) I O k) : I = O ∧ ps = [] ∧ (0 ≤ x ∧ x < k) ∧ RowInv [] (butT (x :: r) x) (I + 1) (O + 1) (k + 1) := by
  have hps : ps = [] := by rcases h.one with h1 | h1; cases h1; exact h1
  have hl := h.len
  have hle := h.le
  subst hps
  simp only [List.length_nil] at hl
  have hm : (butT (x :: r) x).length ≤ (x :: r).length := List.length_filter_le _ _
  refine ⟨by omega, rfl, h.low x (by simp), by omega, by simp; omega, fun j h => (by simp at h), fun y hy => ?_, .inr rfl, by have := h.few; omega, by have := h.most; omega⟩
  have := h.low y ((List.mem_filter.1 hy).1); omega
theorem RowInv.putFull {ps : List (Value × Msg)} {I O k : Nat} (h : RowInv ps [] I O k) : RowInv ps [] I O (k + 1) := ⟨h.le, h.len, h.seq, fun x h => (by cases h), .inl rfl, by simp, by have := h.most; omega⟩
theorem RowInv.putAdd {ps : List (Value × Msg)} {I O k : Nat} (h : RowInv ps [] I O k) (sv : Value) : RowInv (ps ++ [(sv, ⟨[], 0, 0, 9, (I : Int) + 1⟩)]) [] (I + 1) O (k + 1) := by
  have hl := h.len
  have hle := h.le
  refine ⟨by omega, by simp; omega, fun j hj => ?_, fun x h => (by cases h), .inl rfl, by simp, by have := h.most; omega⟩
  rw [List.getElem_append]
  split
  · rename_i h1; exact h.seq j h1
  · rename_i h1
    have : j = ps.length := by simp at hj; omega
    simp only [List.getElem_singleton]; omega
theorem RowInv.askHas {p : Value × Msg} {r : List (Value × Msg)} {xs : List Int} {I O k : Nat} (h : RowInv (p :: r) xs I O k) : xs = [] ∧ p.2.seq = (O : Int) + 1 ∧ RowInv r [] I (O + 1) (k + 1) := by
  have hl := h.len
  have hle := h.le
  simp only [List.length_cons] at hl
  refine ⟨(by rcases h.one with h1 | h1; exact h1; cases h1), by have := h.seq 0 (by simp); simpa using this, by omega, by omega, fun j hj => ?_, fun x h => (by cases h), .inl rfl, by simp, by have := h.most; omega⟩
  have := h.seq (j + 1) (by simpa using hj)
  simp only [List.getElem_cons_succ] at this
  omega
theorem RowInv.askAdd {xs : List Int} {I O k : Nat} (h : RowInv [] xs I O k) : I = O ∧ (k : Int) ∉ xs ∧ RowInv [] (xs ++ [(k : Int)]) I O (k + 1) := by
  have hl := h.len
  have hle := h.le
  simp only [List.length_nil] at hl
  refine ⟨by omega, fun hm => by have := h.low _ hm; omega, hle, h.len, h.seq, fun x hx => ?_, .inr rfl, by have := h.few; simp; omega, by have := h.most; omega⟩
  rcases List.mem_append.1 hx with h1 | h1
  · have := h.low x h1; omega
  · simp at h1; omega
/-- The same, the port's own blocks below T. -/
def PortTop (w : World) (base pb : Nat) (hold : Int) (ps : List (Value × Msg)) (xs : List Int) (N T : Nat) : Prop := ∃ wb mb lv rv n D s, PortAt w base pb wb mb hold lv rv ps xs n D s ∧ n ≤ N ∧ ∀ b, PMut pb wb mb lv rv b → b < T
section
variable {w : World} {base pb : Nat} {hold : Int} {ps : List (Value × Msg)} {xs : List Int} {N T : Nat}
theorem PortOk.top (h : PortOk w base pb hold ps xs N) : PortTop w base pb hold ps xs N w.heap.size := by
  obtain ⟨wb, mb, lv, rv, n, D, s, hP, hn⟩ := h
  exact ⟨wb, mb, lv, rv, n, D, s, hP, hn, fun b hb => hP.mut_lt hb⟩
theorem PortTop.below {w' : World} (h : PortTop w base pb hold ps xs N T) (hb : Below w.heap.size w w') : PortTop w' base pb hold ps xs N T := by
  obtain ⟨wb, mb, lv, rv, n, D, s, hP, hn, ht⟩ := h
  exact ⟨wb, mb, lv, rv, n, D, s, hP.below hb, hn, ht⟩
theorem pPutRowT (h : PortTop w base pb hold ps xs N T) (late seq : Int) {x : Int} {r : List Int} (hx : xs = x :: r) (hxi : isInt x) :
    Calls Try.prog 37 #[.pointer (some ⟨pb, 0, none⟩), .agg #[.slice none 0 0, .int .i64 0, .int .i64 0, .int .i64 late, .int .i64 seq]] w fun e w' => e = .returned (.tuple #[.int .i64 x, .bool true, .int .i64 0]) ∧ PortOk w' base pb hold ps (butT xs x) N ∧ Keeps base w w' ∧ (∀ b, T ≤ b → b < w.heap.size → w'.heap[b]? = w.heap[b]?) := by
  obtain ⟨wb, mb, lv, rv, n, D, s, hP, hn, ht⟩ := h
  exact (putRow_c hP (.slice none 0 0, ⟨[], 0, 0, late, seq⟩) ⟨none, 0, 0, rfl⟩ hx hxi).mono fun e w' ⟨he, rv', h1, h2, _⟩ => ⟨he, ⟨wb, mb, _, _, _, _, _, h1, hn⟩, Keeps.of_chg hP h2, fun b hb hlt => h2.block b hlt (fun hm => by have := ht b hm; omega)⟩
end
set_option maxHeartbeats 4000000 in
set_option maxRecDepth 100000 in
theorem row_c {w : World} {vs : Value} (hold : Int) {qs : List (Value × St)} (hs : StepsAt w vs qs) : Calls Try.prog 8 #[.int .i64 hold, vs] w (LivesPost w) := by
  have hs0 := hid hs
  obtain ⟨a2, c2, rfl⟩ := hs.shape
  clear hs
  have hhold := hid (show 1 ≤ holdT hold ∧ holdT hold ≤ 8 by unfold holdT; omega)
  go_enter Try.func8, Try.ntmps8
  go_wp2_with (first | (go_at_call 32; (with_reducible refine (lives_c _).mono ?_); rintro e w1 ⟨rfl, hb1⟩; have hb1 := hid hb1) | (go_at_call 33; (with_reducible refine (pNew _ hold).mono ?_); rintro e w2 ⟨pb, rfl, hP2, hb2⟩; have hB2 := hid (Below.next hb1.out hb2 hb1.out.size); have hP2 := hid hP2; clear hb2) | (go_at_call 34; (with_reducible refine (early_c _ hs0.out).mono ?_); rintro e w' ⟨v', rfl, hv', rfl⟩; have hl80 := hid (show (qs.take 80).length ≤ 80 by simp; omega); generalize qs.take 80 = ys at hv' hl80; obtain ⟨a3, c3, rfl⟩ := hv'.shape; have hv' := hid hv'))
  have hP3 := hP2.out
  have hB3 := hB2.out
  have hS0 := hid hv'.out
  have hbase := hid hb1.out.size
  have hl80 := hl80.out
  clear hs0 hP2 hB2 hv' hb1
  generalize w1.heap.size = base at hP3 hbase
  go_loopg [6, 7, 8] ys.length (fun g vi vo i wr => ∃ (k I O : Nat) (ps : List (Value × Msg)) (xs : List Int), k ≤ ys.length ∧ g = ys.length - k ∧ i = .int .i64 k ∧ vi = .int .i64 I ∧ vo = .int .i64 O ∧ PortOk wr base pb (holdT hold) ps xs k ∧ RowInv ps xs I O k ∧ Below w.heap.size w wr)
  case atStart => exact ⟨0, 0, 0, [], [], Nat.zero_le _, rfl, rfl, rfl, rfl, hP3, RowInv.start, hB3⟩
  case round =>
    clear hP3 hB3
    obtain ⟨k, I, O, ps, xs, hk, hgk, rfl, rfl, rfl, hP, hI, hB⟩ := hrel
    by_cases hlt : k < ys.length
    · obtain ⟨-, hcl, hcm, hget⟩ := (hS0.out.below hB).cells
      obtain ⟨g, o, rfl, hg, ⟨asv, nsv, csv, hsv⟩, -, d0, d1, d2, d3, d4, d5, d6, d7, d8⟩ := hget k hlt
      rw [hsv] at d4
      clear hget hsv
      generalize ys[k].2 = q at d0 d1 d2 d3 d5 d6 d7 d8
      have hP := hid hP
      have hI := hid hI
      have hB := hid hB
      have hxl := hid (show xs.length ≤ 17592186044416 by have := hI.out.few; omega)
      go_upto_region 11 with (first | (go_at_call 35; (with_reducible refine (pWaiting hP.out hxl.out).mono ?_); rintro e w2 ⟨v, rfl, hv2, hb2⟩; obtain ⟨a4, c4, rfl⟩ := hv2.shape; have e0 := (hb2.cell (p := ⟨g, o + k * 9, none⟩) hg).trans d0; have e1 := (hb2.cell (p := ⟨g, o + k * 9 + 1, none⟩) hg).trans d1; have e2 := (hb2.cell (p := ⟨g, o + k * 9 + 2, none⟩) hg).trans d2; have e3 := (hb2.cell (p := ⟨g, o + k * 9 + 3, none⟩) hg).trans d3; have e4 := (hb2.cell (p := ⟨g, o + k * 9 + 4, none⟩) hg).trans d4; have e5 := (hb2.cell (p := ⟨g, o + k * 9 + 5, none⟩) hg).trans d5; have e6 := (hb2.cell (p := ⟨g, o + k * 9 + 6, none⟩) hg).trans d6; have e7 := (hb2.cell (p := ⟨g, o + k * 9 + 7, none⟩) hg).trans d7; have e8 := (hb2.cell (p := ⟨g, o + k * 9 + 8, none⟩) hg).trans d8; have hP2 := hid (hP.out.below hb2); have hT2 := hid (hP.out.top.below hb2); have hB2 := hid (Below.next hB.out hb2 hB.out.size); have hv2 := hid hv2; clear hb2) | (go_at_call 36; (with_reducible refine (kind_c _ _ _ _ _).mono ?_); rintro e w3 ⟨rfl, hb3⟩; have hP3 := hid (hP2.out.below hb3); have hT3 := hid (hT2.out.below hb3); have hB3 := hid (Below.next hB2.out hb3 hB2.out.size); have hv3 := hid (hv2.out.below hb3); clear hb3))
      · have hk80 : k ≤ 80 := by omega
        have hI80 : I ≤ 80 := by have := hI.out.most; omega
        have hO80 : O ≤ 80 := by have := hI.out.le; omega
        cases xs with
        | cons x r =>
          obtain ⟨rfl, rfl, hx0, hI'⟩ := hI.out.putRow
          have hI' := hid hI'
          obtain ⟨-, -, -, hgr⟩ := hv3.out.get
          obtain ⟨gr, or_, rfl, hgr1, hgrl, cr⟩ := hgr 0 (by simp)
          simp only [Nat.add_zero, List.getElem_cons_zero] at cr
          clear hgr
          go_wp2_with (first | (go_at_call 37; (with_reducible refine (pPutRowT hT3.out 9 ((I : Int) + 1) (x := x) (r := r) rfl (by unfold isInt; omega)).mono ?_); rintro e w4 ⟨rfl, hP4, hk4, hkt⟩; have cr4 := (World.cell?_of_block (a := ⟨gr, or_, none⟩) (hkt gr hgr1 hgrl)).trans cr; have hB4 := hid (hk4 _ _ hB3.out hB3.out.size hbase.out); have hP4 := hid hP4; clear hk4 hkt))
          go_roundg (ys.length - (k + 1))
          case rel => exact ⟨k + 1, I + 1, I + 1, [], _, by omega, rfl, by go_num, by go_num, by go_num, hP4.out.mono (by omega), hI'.out, hB4.out⟩
          case measure => omega
        | nil =>
          by_cases hf : (ps.length : Int) = holdT hold
          · have hI' := hid hI.out.putFull
            replace hf := hid hf
            go_wp2_with (first | (go_at_call 37; (with_reducible refine (pPutFull hP3.out 9 ((I : Int) + 1) hf.out).mono ?_); rintro e w4 ⟨rfl, hP4, hk4⟩; have hB4 := hid (hk4 _ _ hB3.out hB3.out.size hbase.out); have hP4 := hid hP4; clear hk4))
            go_roundg (ys.length - (k + 1))
            case rel => exact ⟨k + 1, I, O, ps, [], by omega, rfl, by go_num, rfl, rfl, hP4.out.mono (by omega), hI'.out, hB4.out⟩
            case measure => omega
          · have hps := hid (show ps.length < 1000000 by have := hI.out.len; omega)
            replace hf := hid hf
            go_wp2_with (first | (go_at_call 37; (with_reducible refine (pPutAdd hP3.out 9 ((I : Int) + 1) hf.out hps.out).mono ?_); rintro e w4 ⟨rfl, ⟨sv', hP4⟩, hk4⟩; have hB4 := hid (hk4 _ _ hB3.out hB3.out.size hbase.out); have hP4 := hid hP4; clear hk4))
            go_roundg (ys.length - (k + 1))
            case rel => exact ⟨k + 1, I + 1, O, _, [], by omega, rfl, by go_num, by go_num, rfl, hP4.out.mono (by omega), hI.out.putAdd sv', hB4.out⟩
            case measure => omega
      · have hk80 : k ≤ 80 := by omega
        have hI80 : I ≤ 80 := by have := hI.out.most; omega
        have hO80 : O ≤ 80 := by have := hI.out.le; omega
        cases ps with
        | cons p r =>
          obtain ⟨sv, m⟩ := p
          obtain ⟨rfl, hsq, hI'⟩ := hI.out.askHas
          simp only at hsq
          have hI' := hid hI'
          replace hsq := hid hsq
          go_wp2_with (first | (go_at_call 38; (with_reducible refine (pAskHas hP3.out k 5 4).mono ?_); rintro e w4 ⟨⟨am, nm, cm, rfl⟩, rfl, hP4, hk4⟩; rw [hsq.out]; have hB4 := hid (hk4 _ _ hB3.out hB3.out.size hbase.out); have hP4 := hid hP4; clear hk4))
          go_roundg (ys.length - (k + 1))
          case rel => exact ⟨k + 1, I, O + 1, r, [], by omega, rfl, by go_num, rfl, by go_num, (hP4.out.below ((Below.refl _ _).alloc (Nat.le_refl _) _)).mono (by omega), hI'.out, hB4.out.alloc hB4.out.size _⟩
          case measure => omega
        | nil =>
          obtain ⟨rfl, hkx, hI'⟩ := hI.out.askAdd
          have hI' := hid hI'
          replace hkx := hid hkx
          have hxs := hid (show xs.length < 1000000 by have := hI.out.few; omega)
          have hl4 := hid (show lateT 4 5 = false from rfl)
          go_wp2_with (first | (go_at_call 38; (with_reducible refine (pAskAdd hP3.out 5 4 (x := (k : Int)) hkx.out (by unfold isInt; omega) hl4.out (by omega) hxs.out).mono ?_); rintro e w4 ⟨rfl, hP4, hk4⟩; have hB4 := hid (hk4 _ _ hB3.out hB3.out.size hbase.out); have hP4 := hid hP4; clear hk4))
          go_roundg (ys.length - (k + 1))
          case rel => exact ⟨k + 1, I, I, [], xs ++ [(k : Int)], by omega, rfl, by go_num, rfl, rfl, hP4.out.below ((Below.refl _ _).alloc (Nat.le_refl _) _), hI'.out, hB4.out.alloc hB4.out.size _⟩
          case measure => omega
    · obtain rfl : k = ys.length := by omega
      have hlen := hI.len
      have hle := hI.le
      go_wp2_with (first | (go_at_call 39; (with_reducible refine (pLen hP).mono ?_); rintro e w' ⟨rfl, rfl⟩))
      go_ret
      exact ⟨rbool (by have := hI.most; unfold wrap64; simp; omega), hB⟩
end Go.Proofs.Ytlefijfhhghikaa.Qu
