/- DERIVED. Walks: slices' symMerge at messages. No statement is proved here. -/
import Derived.Test.YtealopempjempaaSortX
namespace Go.Proofs.Ytealopempjempaa.So
set_option linter.unusedVariables false
set_option linter.unusedSimpArgs false
open Go.RowKit Go.Proofs.Ytealopempjempaa.K Go.Proofs.Ytealopempjempaa.Sp
theorem SortAt.getAt {w0 w : World} {g kb : Nat} {ex : List Value} {x z y : List (Value × Msg)} (h : SortAt w0 w g kb (x ++ z ++ y) ex) {i : Nat} (hi : i < z.length) {I : Nat} (hI : I = x.length + i) : ∃ a n c m, laneOf z[i] = m.lane ∧ At5 w g (I * 5) (.slice a n c) m := by
  subst hI
  have hl : x.length + i < (x ++ z ++ y).length := by simp; omega
  obtain ⟨a, n, c, e, hat⟩ := h.get hl
  have e2 : (x ++ z ++ y)[x.length + i] = z[i] := by
    rw [List.getElem_append_left (by simp; omega), List.getElem_append_right (by omega)]
    simp
  rw [e2] at hat
  exact ⟨a, n, c, z[i].2, rfl, hat⟩
theorem srt_take {l : List (Value × Msg)} {h : Nat} (hs : Srt laneOf l) (hl : h < l.length) {q : Value × Msg} (hq : q ∈ l.take (h + 1)) : laneOf q ≤ laneOf l[h] := by
  obtain ⟨i, hi, rfl⟩ := List.mem_iff_getElem.1 hq
  rw [List.getElem_take]
  exact hs.at_ (by simp at hi; omega) hl (by simp at hi; omega)
theorem srt_drop {l : List (Value × Msg)} {h : Nat} (hs : Srt laneOf l) (hl : h < l.length) {q : Value × Msg} (hq : q ∈ l.drop h) : laneOf l[h] ≤ laneOf q := by
  obtain ⟨i, hi, rfl⟩ := List.mem_iff_getElem.1 hq
  rw [List.getElem_drop]
  exact hs.at_ hl (by simp at hi; omega) (by omega)
section
variable {w0 w : World} {g kb : Nat} {ex : List Value} {x u v y : List (Value × Msg)} {n cap : Nat}
set_option maxHeartbeats 2000000 in
set_option maxRecDepth 100000 in
/-- One element ahead of a sorted row. -/
theorem symLeft_c {p : Value × Msg} (h : SortAt w0 w g kb (x ++ p :: v ++ y) ex) (hv : Srt laneOf v) (hn : n = (x ++ p :: v ++ y).length) (hc : n ≤ cap) (hm : n ≤ 1000000) (a m b : Int) (ha : a = x.length) (hmm : m = x.length + 1) (hb : b = x.length + 1 + v.length) :
    Calls Try.prog 93 #[.slice (some ⟨g, 0, none⟩) n cap, .int .i64 a, .int .i64 m, .int .i64 b, cmpV kb] w (SortPost w0 g kb ex x (p :: v) y) := by
  subst ha hmm hb
  have hnN : n = x.length + 1 + v.length + y.length := by rw [hn]; simp; omega
  have hbx : x.length + 1 + v.length ≤ 1000000 := by omega
  have hxn : x.length + 1 + v.length ≤ n := by omega
  have hfin := hid (fun w' i (hi : i ≤ v.length) (h1 : ∀ q ∈ v.take i, laneOf q < laneOf p) (h2 : ∀ q ∈ v.drop i, laneOf p ≤ laneOf q) (h : SortAt w0 w' g kb (x ++ v.take i ++ p :: (v.drop i ++ y)) ex) => show SortPost w0 g kb ex x (p :: v) y (.returned (.tuple #[])) w' from by
    refine ⟨rfl, ?_⟩
    have e : sortL laneOf (p :: v) = v.take i ++ p :: v.drop i := by
      refine (sortL_of ?_ ?_).symm
      · have h3 := (Stab.swap (key := laneOf) (u := [p]) (v := v.take i) (fun a ha b hb => by simp at ha; subst ha; exact h1 b hb)).app (Stab.refl (v.drop i))
        simpa using h3
      · exact (Srt.app (by have := hv; rw [← List.take_append_drop i v] at this; exact this.left) (List.pairwise_cons.2 ⟨h2, by have := hv; rw [← List.take_append_drop i v] at this; exact this.right⟩) (fun a ha b hb => by
          rcases List.mem_cons.1 hb with rfl | hb
          · exact Int.le_of_lt (h1 a ha)
          · exact Int.le_trans (Int.le_of_lt (h1 a ha)) (h2 b hb)))
    rw [e]; simpa using h)
  have hh := hid h
  replace hn := hid hn
  replace hnN := hid hnN
  replace hv := hid hv
  have e1 : IntKind.i64.wrap ((x.length : Int) + 1 - x.length) = 1 := by rw [show (x.length : Int) + 1 - x.length = 1 by omega]; exact IntWalk.i64_in _ (by omega)
  have e2 : (((x.length : Int) + 1 - x.length) == 1) = true := by rw [show (x.length : Int) + 1 - x.length = 1 by omega]; rfl
  clear h
  unfold cmpV
  go_enter Try.func93, Try.ntmps93
  go_wp2
  go_loopg [10, 11] v.length (fun gg si sj wr => ∃ (i j I J : Nat), I = x.length + 1 + i ∧ J = x.length + 1 + j ∧ i ≤ j ∧ j ≤ v.length ∧ si = .int .i64 I ∧ sj = .int .i64 J ∧ gg = j - i ∧ (∀ q ∈ v.take i, laneOf q < laneOf p) ∧ (∀ q ∈ v.drop j, laneOf p ≤ laneOf q) ∧ SortAt w0 wr g kb (x ++ p :: v ++ y) ex)
  case atStart => exact ⟨0, v.length, x.length + 1, x.length + 1 + v.length, rfl, rfl, by omega, by omega, by go_num, by go_num, rfl, by simp, by simp, hh.out⟩
  case round =>
    obtain ⟨i, j, I, J, hI, hJ, hij, hjl, rfl, rfl, hgg, hlo, hhi', hS⟩ := hrel
    by_cases hlt : i < j
    · have hIJ : I < J := by omega
      have hIb : I ≤ 1000000 := by omega
      have hJb : J ≤ 1000000 := by omega
      replace hI := hid hI
      replace hJ := hid hJ
      go_upto_region 5 with fail
      obtain ⟨H, hH⟩ : ∃ H : Nat, ((I : Int) + (J : Int)) / 2 = H := ⟨(I + J) / 2, by omega⟩
      rw [hH]
      have hH1 : I ≤ H := by omega
      have hH2 : H < J := by omega
      obtain ⟨h, hh0⟩ : ∃ h, H = x.length + 1 + h := ⟨H - (x.length + 1), by have := hI.out; omega⟩
      have hhi : i ≤ h := by have := hI.out; omega
      have hhj : h < j := by have := hJ.out; omega
      have hhv : h < v.length := by omega
      have hHn : H < n := by omega
      have hxn1 : x.length < n := by omega
      clear hH
      obtain ⟨a1, n1, c1, m1, hl1, hat1⟩ := hS.getAt (z := p :: v) (i := h + 1) (by simp; omega) (I := H) (by omega)
      obtain ⟨a2, n2, c2, m2, hl2, hat2⟩ := hS.getAt (z := p :: v) (i := 0) (by simp) (I := x.length) (by omega)
      simp only [List.getElem_cons_succ, List.getElem_cons_zero] at hl1 hl2
      replace hl1 := hid hl1
      replace hl2 := hid hl2
      replace hh0 := hid hh0
      replace hlo := hid hlo
      replace hhi' := hid hhi'
      replace hgg := hid hgg
      have hcmp := hid (fun (w : World) (hk : KeyAt w kb) => cmp_c hk a1 a2 n1 c1 n2 c2 m1 m2)
      have hkey := hid hS.keyAt
      have hA := hid hat1
      have hB := hid hat2
      obtain ⟨x0, x1, x2, x3, x4, hxl⟩ := hat1
      obtain ⟨y0, y1, y2, y3, y4, hyl⟩ := hat2
      replace hS := hid hS
      go_region_held3 (fun W => W.cell? ⟨g, H * 5, none⟩ = some (.slice a1 n1 c1) ∧ W.cell? ⟨g, H * 5 + 1, none⟩ = some (.int .i64 m1.lane) ∧ W.cell? ⟨g, H * 5 + 2, none⟩ = some (.int .i64 m1.stamp) ∧ W.cell? ⟨g, H * 5 + 3, none⟩ = some (.int .i64 m1.late) ∧ W.cell? ⟨g, H * 5 + 4, none⟩ = some (.int .i64 m1.seq) ∧ W.cell? ⟨g, x.length * 5, none⟩ = some (.slice a2 n2 c2) ∧ W.cell? ⟨g, x.length * 5 + 1, none⟩ = some (.int .i64 m2.lane) ∧ W.cell? ⟨g, x.length * 5 + 2, none⟩ = some (.int .i64 m2.stamp) ∧ W.cell? ⟨g, x.length * 5 + 3, none⟩ = some (.int .i64 m2.late) ∧ W.cell? ⟨g, x.length * 5 + 4, none⟩ = some (.int .i64 m2.seq))
        (first | go_keep | ((try dsimp only); (repeat' apply And.intro) <;> go_keep))
        (first | (go_at_call 84; (with_reducible refine (hcmp.out wr.drew (hkey.out.of rfl)).mono ?_); rintro e w3 ⟨rfl, hb3⟩; replace hb3 := Below.ofDrew hb3; obtain ⟨u0, u1, u2, u3, u4, -⟩ := hA.out.below hb3; obtain ⟨v0, v1, v2, v3, v4, -⟩ := hB.out.below hb3; replace hb3 := hid hb3))
      rw [cmpI_lt]
      clear x0 x1 x2 x3 x4 y0 y1 y2 y3 y4 u0 u1 u2 u3 u4 v0 v1 v2 v3 v4 hA hB hcmp hkey
      by_cases hlt2 : m1.lane < m2.lane
      · rw [decide_eq_true hlt2]
        have hlo2 := hid (show ∀ q ∈ v.take (h + 1), laneOf q < laneOf p from fun q hq => by have := srt_take hv.out hhv hq; rw [hl1.out] at this; rw [hl2.out]; omega)
        clear hlt2
        go_wp2
        go_roundg (j - (h + 1))
        case rel => exact ⟨h + 1, j, H + 1, J, by have := hh0.out; omega, hJ.out, by omega, hjl, by go_num, rfl, rfl, hlo2.out, hhi'.out, hS.out.below hb3.out⟩
        case measure => have := hgg.out; omega
      · rw [decide_eq_false hlt2]
        have hhi2 := hid (show ∀ q ∈ v.drop h, laneOf p ≤ laneOf q from fun q hq => by have := srt_drop hv.out hhv hq; rw [hl1.out] at this; rw [hl2.out]; omega)
        clear hlt2
        go_wp2
        go_roundg (h - i)
        case rel => exact ⟨i, h, I, H, hI.out, hh0.out, by omega, by omega, rfl, rfl, rfl, hlo.out, hhi2.out, hS.out.below hb3.out⟩
        case measure => have := hgg.out; omega
    · obtain rfl : i = j := by omega
      obtain rfl : I = J := by omega
      have hIb : I ≤ 1000000 := by omega
      have hI1 : x.length + 1 ≤ I := by omega
      have hlo := hid hlo
      have hhi' := hid hhi'
      replace hgg := hid hgg
      have hI' := hid hI
      replace hJ := hid hJ
      have hS := hid hS
      go_wp2
      go_loopg [13] i (fun gg sk wr => ∃ (k K : Nat), k ≤ i ∧ K = x.length + k ∧ sk = .int .i64 K ∧ gg = i - k ∧ SortAt w0 wr g kb (x ++ v.take k ++ p :: (v.drop k ++ y)) ex)
      case atStart => exact ⟨0, x.length, by omega, rfl, rfl, rfl, by simpa using hS.out⟩
      case round =>
        obtain ⟨k, K, hki, hK, rfl, hgk, hS2⟩ := hrel
        by_cases hlt2 : k < i
        · have hkv : k < v.length := by omega
          have hdv : v.drop k = v[k] :: v.drop (k + 1) := List.drop_eq_getElem_cons hkv
          have hL : x ++ v.take k ++ p :: (v.drop k ++ y) = (x ++ v.take k) ++ p :: [] ++ v[k] :: (v.drop (k + 1) ++ y) := by rw [hdv]; simp only [List.append_assoc, List.cons_append, List.nil_append]
          have hL' : x ++ v.take (k + 1) ++ p :: (v.drop (k + 1) ++ y) = (x ++ v.take k) ++ v[k] :: [] ++ p :: (v.drop (k + 1) ++ y) := by rw [List.take_succ_eq_append_getElem hkv]; simp only [List.append_assoc, List.cons_append, List.nil_append]
          rw [hL] at hS2
          obtain ⟨⟨a1, n1, c1, e1⟩, ⟨a2, n2, c2, e2⟩, ⟨x0, x1, x2, x3, x4, hxl⟩, ⟨y0, y1, y2, y3, y4, hyl⟩, hsw, -⟩ := hS2.two (i := K) (j := K + 1) (by simp; omega) (by simp; omega)
          rw [← hL'] at hsw
          have fz := fun o => hS2.at_.frozen o
          replace hsw := hid hsw
          clear hdv hL hL' hS2
          have hK1 : K < I - 1 := by omega
          have hK2 : K + 1 < n := by omega
          have hK3 : (K : Int) + 1 < n := by omega
          have hK4 : (K : Int) < (I : Int) - 1 := by omega
          have hK5 : ((K : Int) + 1).toNat = K + 1 := by omega
          have hK6 : (K : Int) + 1 < I := by omega
          have hK7 : K + 1 < I := by omega
          replace hK := hid hK
          clear hI
          generalize v[k] = q at *
          obtain ⟨pv, pm⟩ := p
          obtain ⟨qv, qm⟩ := q
          simp only at e1 e2 x0 x1 x2 x3 x4 y0 y1 y2 y3 y4
          subst e1 e2
          go_upto_region 11 with fail
          go_region
          have hfin2 := hsw.out
          unfold put5 at hfin2
          simp only at hfin2
          go_wp2
          go_roundg (i - (k + 1))
          case rel => exact ⟨k + 1, K + 1, by omega, by have := hK.out; omega, by go_num, rfl, hfin2⟩
          case measure => omega
        · obtain rfl : k = i := by omega
          have hK1 : (I : Int) - 1 ≤ K := by omega
          have hK2 : (I : Int) ≤ (K : Int) + 1 := by omega
          have hK3 : I ≤ K + 1 := by omega
          have hf := hfin.out wr k (by omega) hlo.out hhi'.out hS2
          replace hf := hid hf
          clear hS2 hI hK
          go_wp2
          go_end0
          exact hf.out
set_option maxHeartbeats 2000000 in
set_option maxRecDepth 100000 in
/-- One element behind a sorted row. -/
theorem symRight_c {p : Value × Msg} (h : SortAt w0 w g kb (x ++ (u ++ [p]) ++ y) ex) (hu : Srt laneOf u) (hu2 : 2 ≤ u.length) (hn : n = (x ++ (u ++ [p]) ++ y).length) (hc : n ≤ cap) (hm : n ≤ 1000000) (a m b : Int) (ha : a = x.length) (hmm : m = x.length + u.length) (hb : b = x.length + u.length + 1) :
    Calls Try.prog 93 #[.slice (some ⟨g, 0, none⟩) n cap, .int .i64 a, .int .i64 m, .int .i64 b, cmpV kb] w (SortPost w0 g kb ex x (u ++ [p]) y) := by
  subst ha hb
  have hnN : n = x.length + u.length + 1 + y.length := by rw [hn]; simp; omega
  generalize hM : x.length + u.length = M at hmm hnN
  have hmm2 : m = (M : Int) := by rw [← hM]; simpa using hmm
  subst hmm2
  have hbx : M + 1 ≤ 1000000 := by omega
  have hxn : M + 1 ≤ n := by omega
  have hxM : x.length + 2 ≤ M := by omega
  have hfin := hid (fun w' i (hi : i ≤ u.length) (h1 : ∀ q ∈ u.take i, laneOf q ≤ laneOf p) (h2 : ∀ q ∈ u.drop i, laneOf p < laneOf q) (h : SortAt w0 w' g kb (x ++ u.take i ++ p :: (u.drop i ++ y)) ex) => show SortPost w0 g kb ex x (u ++ [p]) y (.returned (.tuple #[])) w' from by
    refine ⟨rfl, ?_⟩
    have e : sortL laneOf (u ++ [p]) = u.take i ++ p :: u.drop i := by
      refine (sortL_of ?_ ?_).symm
      · have h3 := (Stab.refl (key := laneOf) (u.take i)).app (Stab.swap (key := laneOf) (u := u.drop i) (v := [p]) (fun a ha b hb => by simp at hb; subst hb; exact h2 a ha))
        rw [← List.append_assoc, List.take_append_drop] at h3
        simpa using h3
      · exact (Srt.app (by have := hu; rw [← List.take_append_drop i u] at this; exact this.left) (List.pairwise_cons.2 ⟨fun q hq => Int.le_of_lt (h2 q hq), by have := hu; rw [← List.take_append_drop i u] at this; exact this.right⟩) (fun a ha b hb => by
          rcases List.mem_cons.1 hb with rfl | hb
          · exact h1 a ha
          · exact Int.le_trans (h1 a ha) (Int.le_of_lt (h2 b hb))))
    rw [e]; simpa using h)
  have hh := hid h
  replace hn := hid hn
  replace hnN := hid hnN
  replace hu := hid hu
  have hulM : u.length ≤ M := by omega
  have hb3 : ((x.length : Int) + u.length + 1) = (M : Int) + 1 := by omega
  rw [hb3]
  clear hb3 hmm
  replace hM := hid hM
  have e2 : (((M : Int) - x.length) == 1) = false := by rw [beq_eq_false_iff_ne]; omega
  have e3 : (((M : Int) + 1 - M) == 1) = true := by rw [beq_iff_eq]; omega
  have e4 : (M : Int) + 1 - M = 1 := by omega
  clear h
  unfold cmpV
  go_enter Try.func93, Try.ntmps93
  go_wp2
  go_loopg [14, 15] u.length (fun gg si sj wr => ∃ (i j I J : Nat), I = x.length + i ∧ J = x.length + j ∧ i ≤ j ∧ j ≤ u.length ∧ si = .int .i64 I ∧ sj = .int .i64 J ∧ gg = j - i ∧ (∀ q ∈ u.take i, laneOf q ≤ laneOf p) ∧ (∀ q ∈ u.drop j, laneOf p < laneOf q) ∧ SortAt w0 wr g kb (x ++ (u ++ [p]) ++ y) ex)
  case atStart => exact ⟨0, u.length, x.length, M, rfl, hM.out.symm, by omega, by omega, rfl, rfl, rfl, by simp, by simp, hh.out⟩
  case round =>
    obtain ⟨i, j, I, J, hI, hJ, hij, hjl, rfl, rfl, hgg, hlo, hhi', hS⟩ := hrel
    by_cases hlt : i < j
    · have hIJ : I < J := by omega
      have hJM : J ≤ M := by have := hM.out; omega
      have hIb : I ≤ 1000000 := by omega
      have hJb : J ≤ 1000000 := by omega
      replace hI := hid hI
      replace hJ := hid hJ
      go_upto_region 17 with fail
      obtain ⟨H, hH⟩ : ∃ H : Nat, ((I : Int) + (J : Int)) / 2 = H := ⟨(I + J) / 2, by omega⟩
      rw [hH]
      have hH1 : I ≤ H := by omega
      have hH2 : H < J := by omega
      obtain ⟨h, hh0⟩ : ∃ h, H = x.length + h := ⟨H - x.length, by have := hI.out; omega⟩
      have hhi : i ≤ h := by have := hI.out; omega
      have hhj : h < j := by have := hJ.out; omega
      have hhv : h < u.length := by omega
      have hHn : H < n := by omega
      have hMn : M < n := by omega
      clear hH
      obtain ⟨a1, n1, c1, m1, hl1, hat1⟩ := hS.getAt (z := u ++ [p]) (i := u.length) (by simp) (I := M) hM.out.symm
      obtain ⟨a2, n2, c2, m2, hl2, hat2⟩ := hS.getAt (z := u ++ [p]) (i := h) (by simp; omega) (I := H) (by omega)
      rw [List.getElem_append_left hhv] at hl2
      simp only [List.getElem_concat_length] at hl1
      replace hl1 := hid hl1
      replace hl2 := hid hl2
      replace hh0 := hid hh0
      replace hlo := hid hlo
      replace hhi' := hid hhi'
      replace hgg := hid hgg
      have hcmp := hid (fun (w : World) (hk : KeyAt w kb) => cmp_c hk a1 a2 n1 c1 n2 c2 m1 m2)
      have hkey := hid hS.keyAt
      have hA := hid hat1
      have hB := hid hat2
      obtain ⟨x0, x1, x2, x3, x4, hxl⟩ := hat1
      obtain ⟨y0, y1, y2, y3, y4, hyl⟩ := hat2
      replace hS := hid hS
      go_region_held3 (fun W => W.cell? ⟨g, M * 5, none⟩ = some (.slice a1 n1 c1) ∧ W.cell? ⟨g, M * 5 + 1, none⟩ = some (.int .i64 m1.lane) ∧ W.cell? ⟨g, M * 5 + 2, none⟩ = some (.int .i64 m1.stamp) ∧ W.cell? ⟨g, M * 5 + 3, none⟩ = some (.int .i64 m1.late) ∧ W.cell? ⟨g, M * 5 + 4, none⟩ = some (.int .i64 m1.seq) ∧ W.cell? ⟨g, H * 5, none⟩ = some (.slice a2 n2 c2) ∧ W.cell? ⟨g, H * 5 + 1, none⟩ = some (.int .i64 m2.lane) ∧ W.cell? ⟨g, H * 5 + 2, none⟩ = some (.int .i64 m2.stamp) ∧ W.cell? ⟨g, H * 5 + 3, none⟩ = some (.int .i64 m2.late) ∧ W.cell? ⟨g, H * 5 + 4, none⟩ = some (.int .i64 m2.seq))
        (first | go_keep | ((try dsimp only); (repeat' apply And.intro) <;> go_keep))
        (first | (go_at_call 84; (with_reducible refine (hcmp.out wr.drew (hkey.out.of rfl)).mono ?_); rintro e w3 ⟨rfl, hb3⟩; replace hb3 := Below.ofDrew hb3; obtain ⟨u0, u1, u2, u3, u4, -⟩ := hA.out.below hb3; obtain ⟨v0, v1, v2, v3, v4, -⟩ := hB.out.below hb3; replace hb3 := hid hb3))
      rw [cmpI_lt]
      clear x0 x1 x2 x3 x4 y0 y1 y2 y3 y4 u0 u1 u2 u3 u4 v0 v1 v2 v3 v4 hA hB hcmp hkey
      by_cases hlt2 : m1.lane < m2.lane
      · rw [decide_eq_true hlt2]
        have hhi2 := hid (show ∀ q ∈ u.drop h, laneOf p < laneOf q from fun q hq => by have := srt_drop hu.out hhv hq; rw [hl2.out] at this; rw [hl1.out]; omega)
        clear hlt2
        go_wp2
        go_roundg (h - i)
        case rel => exact ⟨i, h, I, H, hI.out, hh0.out, by omega, by omega, rfl, rfl, rfl, hlo.out, hhi2.out, hS.out.below hb3.out⟩
        case measure => have := hgg.out; omega
      · rw [decide_eq_false hlt2]
        have hlo2 := hid (show ∀ q ∈ u.take (h + 1), laneOf q ≤ laneOf p from fun q hq => by have := srt_take hu.out hhv hq; rw [hl2.out] at this; rw [hl1.out]; omega)
        clear hlt2
        go_wp2
        go_roundg (j - (h + 1))
        case rel => exact ⟨h + 1, j, H + 1, J, by have := hh0.out; omega, hJ.out, by omega, hjl, by go_num, rfl, rfl, hlo2.out, hhi'.out, hS.out.below hb3.out⟩
        case measure => have := hgg.out; omega
    · obtain rfl : i = j := by omega
      obtain rfl : I = J := by omega
      have hIM : I ≤ M := by have := hM.out; omega
      have hIb : I ≤ 1000000 := by omega
      have hlo := hid hlo
      have hhi' := hid hhi'
      replace hgg := hid hgg
      have hI' := hid hI
      replace hJ := hid hJ
      have hS := hid hS
      go_wp2
      go_loopg [17] (u.length - i) (fun gg sk wr => ∃ (k K : Nat), i ≤ k ∧ k ≤ u.length ∧ K = x.length + k ∧ sk = .int .i64 K ∧ gg = k - i ∧ SortAt w0 wr g kb (x ++ u.take k ++ p :: (u.drop k ++ y)) ex)
      case atStart => exact ⟨u.length, M, hjl, by omega, hM.out.symm, rfl, rfl, by simpa using hS.out⟩
      case round =>
        obtain ⟨k, K, hki, hku, hK, rfl, hgk, hS2⟩ := hrel
        by_cases hlt2 : i < k
        · obtain ⟨k', hk'⟩ : ∃ k', k = k' + 1 := ⟨k - 1, by omega⟩
          obtain ⟨K', hK'⟩ : ∃ K', K = K' + 1 := ⟨K - 1, by omega⟩
          subst hk'
          have hkv : k' < u.length := by omega
          have hdv : u.drop k' = u[k'] :: u.drop (k' + 1) := List.drop_eq_getElem_cons hkv
          have hL : x ++ u.take (k' + 1) ++ p :: (u.drop (k' + 1) ++ y) = (x ++ u.take k') ++ u[k'] :: [] ++ p :: (u.drop (k' + 1) ++ y) := by rw [List.take_succ_eq_append_getElem hkv]; simp only [List.append_assoc, List.cons_append, List.nil_append]
          have hL' : x ++ u.take k' ++ p :: (u.drop k' ++ y) = (x ++ u.take k') ++ p :: [] ++ u[k'] :: (u.drop (k' + 1) ++ y) := by rw [hdv]; simp only [List.append_assoc, List.cons_append, List.nil_append]
          rw [hL] at hS2
          obtain ⟨⟨a1, n1, c1, e1⟩, ⟨a2, n2, c2, e2⟩, ⟨x0, x1, x2, x3, x4, hxl⟩, ⟨y0, y1, y2, y3, y4, hyl⟩, -, hsw⟩ := hS2.two (i := K') (j := K) (by simp; omega) (by simp; omega)
          rw [← hL'] at hsw
          have fz := fun o => hS2.at_.frozen o
          replace hsw := hid hsw
          clear hdv hL hL' hS2
          have hK1 : I < K := by omega
          have hK2 : K < n := by have := hnN.out; have := hM.out; omega
          have hKM : K ≤ 1000000 := by omega
          have hj2 : (K : Int) - 1 < n := by omega
          have hj3 : (0 : Int) ≤ (K : Int) - 1 := by omega
          have hj4 : 1 ≤ K := by omega
          have hj5 : ((K : Int) - 1).toNat = K' := by omega
          have hj6 : (1 : Int) ≤ K := by omega
          have hj7 : (K : Int) ≤ n := by omega
          replace hK := hid hK
          replace hK' := hid hK'
          clear hI
          generalize u[k'] = q at *
          obtain ⟨pv, pm⟩ := p
          obtain ⟨qv, qm⟩ := q
          simp only at e1 e2 x0 x1 x2 x3 x4 y0 y1 y2 y3 y4
          subst e1 e2
          go_upto_region 23 with fail
          go_region
          have hfin2 := hsw.out
          unfold put5 at hfin2
          simp only at hfin2
          go_wp2
          go_roundg (k' - i)
          case rel => exact ⟨k', K', by omega, by omega, by have := hK.out; have := hK'.out; omega, by have := hK'.out; exact congrArg (Value.int .i64) (by omega), rfl, hfin2⟩
          case measure => omega
        · obtain rfl : k = i := by omega
          have hK3 : K ≤ I := by omega
          have hf := hfin.out wr k (by omega) hlo.out hhi'.out hS2
          replace hf := hid hf
          clear hS2 hI hK
          go_wp2
          go_end0
          exact hf.out
end
end Go.Proofs.Ytealopempjempaa.So
