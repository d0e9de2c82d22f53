/- DERIVED. Walks: slices' insertionSort, swapRange, rotate at messages. No statement is proved here. -/
import Derived.Test.YtealopempjempaaSortW
import Derived.IntWalk
namespace Go.Proofs.Ytealopempjempaa.So
set_option linter.unusedVariables false
set_option linter.unusedSimpArgs false
open Go.RowKit Go.Proofs.Ytealopempjempaa.K Go.Proofs.Ytealopempjempaa.Sp
/-- Two messages of a row change places. -/
theorem swap_mid {α : Type} (x c y : List α) (p q : α) : ((x ++ p :: c ++ q :: y).set x.length q).set (x.length + 1 + c.length) p = x ++ q :: c ++ p :: y := by
  have e1 : (x ++ p :: c ++ q :: y).set x.length q = x ++ q :: c ++ q :: y := by
    rw [List.append_assoc, List.set_append_right _ _ (Nat.le_refl _)]; simp
  rw [e1, List.set_append_right _ _ (by simp; omega)]
  have e : x.length + 1 + c.length - (x ++ q :: c).length = 0 := by simp; omega
  rw [e, List.set_cons_zero]
theorem swr_split {α : Type} {u v x c y : List α} {j : Nat} (hu : j < u.length) (hv : j < v.length) : x ++ (v.take j ++ u.drop j) ++ c ++ (u.take j ++ v.drop j) ++ y = (x ++ v.take j) ++ u[j] :: (u.drop (j + 1) ++ c ++ u.take j) ++ v[j] :: (v.drop (j + 1) ++ y) ∧
    x ++ (v.take (j + 1) ++ u.drop (j + 1)) ++ c ++ (u.take (j + 1) ++ v.drop (j + 1)) ++ y = (x ++ v.take j) ++ v[j] :: (u.drop (j + 1) ++ c ++ u.take j) ++ u[j] :: (v.drop (j + 1) ++ y) := by
  constructor
  · rw [List.drop_eq_getElem_cons hu, List.drop_eq_getElem_cons hv]
    simp only [List.append_assoc, List.cons_append, List.nil_append]
  · rw [List.take_succ_eq_append_getElem hu, List.take_succ_eq_append_getElem hv]
    simp only [List.append_assoc, List.cons_append, List.nil_append]
section
variable {w0 w : World} {g kb : Nat} {ex : List Value} {X C Y : List (Value × Msg)} {p q : Value × Msg}
/-- Two messages of the row: what they are, and the row behind an exchange. -/
theorem SortAt.two (h : SortAt w0 w g kb (X ++ p :: C ++ q :: Y) ex) {i j : Nat} (hi : i = X.length) (hj : j = X.length + 1 + C.length) :
    (∃ a n c, p.1 = .slice a n c) ∧ (∃ a n c, q.1 = .slice a n c) ∧ At5 w g (i * 5) p.1 p.2 ∧ At5 w g (j * 5) q.1 q.2 ∧
    SortAt w0 (put5 (put5 w g (i * 5) q) g (j * 5) p).drew g kb (X ++ q :: C ++ p :: Y) ex ∧ SortAt w0 (put5 (put5 w g (j * 5) p) g (i * 5) q).drew g kb (X ++ q :: C ++ p :: Y) ex := by
  subst hi hj
  have h1 : X.length < (X ++ p :: C ++ q :: Y).length := by simp
  have h2 : X.length + 1 + C.length < (X ++ p :: C ++ q :: Y).length := by simp; omega
  have e1 : (X ++ p :: C ++ q :: Y)[X.length] = p := by simp
  have e2 : (X ++ p :: C ++ q :: Y)[X.length + 1 + C.length] = q := by
    have hl : (X ++ p :: C).length = X.length + 1 + C.length := by simp; omega
    rw [List.getElem_append_right (by omega)]; simp [hl]
  obtain ⟨a, n, c, ea, ca⟩ := h.get h1
  obtain ⟨b, m, d, eb, cb⟩ := h.get h2
  have s1 := h.put2 h1 h2
  have s2 := h.put2 h2 h1
  rw [e1] at ea ca s1 s2
  rw [e2] at eb cb s1 s2
  rw [swap_mid] at s1
  rw [List.set_comm _ _ (by omega), swap_mid] at s2
  have ea1 : p.1 = .slice a n c := congrArg Prod.fst ea
  have eb1 : q.1 = .slice b m d := congrArg Prod.fst eb
  exact ⟨⟨a, n, c, ea1⟩, ⟨b, m, d, eb1⟩, ea1 ▸ ca, eb1 ▸ cb, s1.below (Below.refl _ _).drew, s2.below (Below.refl _ _).drew⟩
end
def cmpV (kb : Nat) : Value := .func (.func 84) #[] #[.pointer (some ⟨kb, 0, none⟩)]
def SwapPost (w0 : World) (g kb : Nat) (ex : List Value) (s : List (Value × Msg)) (e : Ending) (w' : World) : Prop := e = .returned (.tuple #[]) ∧ SortAt w0 w' g kb s ex
set_option maxHeartbeats 1000000 in
theorem swapRange_c {w0 w : World} {g kb : Nat} {ex : List Value} {x u c v y : List (Value × Msg)} (h : SortAt w0 w g kb (x ++ u ++ c ++ v ++ y) ex) (huv : u.length = v.length) {n cap : Nat} (hn : n = (x ++ u ++ c ++ v ++ y).length) (hc : n ≤ cap) (hm : n ≤ 1000000) (a b k : Int) (ha : a = x.length) (hb : b = x.length + u.length + c.length) (hk : k = u.length) :
    Calls Try.prog 95 #[.slice (some ⟨g, 0, none⟩) n cap, .int .i64 a, .int .i64 b, .int .i64 k, cmpV kb] w (SwapPost w0 g kb ex (x ++ v ++ c ++ u ++ y)) := by
  subst ha hb hk
  have hh := hid h
  replace huv := hid huv
  replace hn := hid hn
  unfold cmpV
  clear h
  go_enter Try.func95, Try.ntmps95
  go_wp2
  go_loopg [10] u.length (fun gg i wr => ∃ j : Nat, j ≤ u.length ∧ gg = u.length - j ∧ i = .int .i64 j ∧ SortAt w0 wr g kb (x ++ (v.take j ++ u.drop j) ++ c ++ (u.take j ++ v.drop j) ++ y) ex)
  case atStart => exact ⟨0, Nat.zero_le _, rfl, rfl, by simpa using hh.out⟩
  case round =>
    obtain ⟨j, hj, hgj, rfl, hS⟩ := hrel
    by_cases hlt : j < u.length
    · have hlv : j < v.length := by have := huv.out; omega
      obtain ⟨hL, hL'⟩ := swr_split (x := x) (c := c) (y := y) hlt hlv
      have hnn : (n : Int) = x.length + u.length + c.length + v.length + y.length := by rw [hn.out]; simp; omega
      have huvi : (u.length : Int) = v.length := by rw [huv.out]
      have ha1 : ((x.length : Int) + j) < n := by omega
      have ha2 : ((x.length : Int) + u.length + c.length + j) < n := by omega
      replace hnn := hid hnn
      replace huvi := hid huvi
      rw [hL] at hS
      obtain ⟨⟨a1, n1, c1, e1⟩, ⟨a2, n2, c2, e2⟩, ⟨x0, x1, x2, x3, x4, hxl⟩, ⟨y0, y1, y2, y3, y4, hyl⟩, hsw, -⟩ := hS.two (i := x.length + j) (j := x.length + u.length + c.length + j) (by simp; omega) (by simp; omega)
      have fz := fun o => hS.at_.frozen o
      rw [← hL'] at hsw
      have hsw := hid hsw
      clear hL hL' hS
      generalize u[j] = p at *
      generalize v[j] = q at *
      obtain ⟨pv, pm⟩ := p
      obtain ⟨qv, qm⟩ := q
      simp only at e1 e2 x0 x1 x2 x3 x4 y0 y1 y2 y3 y4
      subst e1 e2
      have t1 : ((x.length : Int) + j).toNat = x.length + j := by omega
      have t2 : ((x.length : Int) + u.length + c.length + j).toNat = x.length + u.length + c.length + j := by omega
      go_upto_region 3 with fail
      go_region
      have hfin := hsw.out
      unfold put5 at hfin
      simp only at hfin
      go_wp2
      go_roundg (u.length - (j + 1))
      case rel => exact ⟨j + 1, by omega, rfl, by go_num, hfin⟩
      case measure => omega
    · obtain rfl : j = u.length := by omega
      rw [List.take_length, List.drop_length, huv.out, List.take_length, List.drop_length, List.append_nil, List.append_nil] at hS
      go_wp2
      go_end0
      exact ⟨rfl, hS⟩
def laneOf (p : Value × Msg) : Int := p.2.lane
set_option maxHeartbeats 1000000 in
/-- Two blocks of a row change places. -/
theorem rotate_c {w0 w : World} {g kb : Nat} {ex : List Value} {x u v y : List (Value × Msg)} (h : SortAt w0 w g kb (x ++ u ++ v ++ y) ex) {n cap : Nat} (hn : n = (x ++ u ++ v ++ y).length) (hc : n ≤ cap) (hm : n ≤ 1000000) (hu : 0 < u.length) (hv : 0 < v.length) (a m b : Int) (ha : a = x.length) (hmm : m = x.length + u.length) (hb : b = x.length + u.length + v.length) :
    Calls Try.prog 94 #[.slice (some ⟨g, 0, none⟩) n cap, .int .i64 a, .int .i64 m, .int .i64 b, cmpV kb] w (SwapPost w0 g kb ex (x ++ v ++ u ++ y)) := by
  subst ha hmm hb
  have hnn : (n : Int) = x.length + u.length + v.length + y.length := by rw [hn]; simp; omega
  have hfin : ∀ w', SortAt w0 w' g kb (x ++ v ++ u ++ y) ex → SwapPost w0 g kb ex (x ++ v ++ u ++ y) (.returned (.tuple #[])) w' := fun w' h => ⟨rfl, h⟩
  have hx0 : (x.length : Int) + u.length = x.length + u.length := rfl
  have hbv : v.length ≤ 1000000 := by omega
  have hbu : u.length ≤ 1000000 := by omega
  generalize hM : x.length + u.length = M
  have hMi : (x.length : Int) + u.length = M := by omega
  replace hfin := hid hfin
  have hh := hid h
  replace hn := hid hn
  replace hnn := hid hnn
  replace hM := hid hM
  clear h hx0
  have e1 : (M : Int) - x.length = u.length := by omega
  have e2 : (x.length : Int) + u.length + v.length - M = v.length := by omega
  unfold cmpV
  rw [hMi] at e2 ⊢
  clear hMi
  go_enter Try.func94, Try.ntmps94
  go_wp2
  go_loopg [10, 11] (u.length + v.length) (fun gg si sj wr => ∃ (P A B S : List (Value × Msg)), si = .int .i64 A.length ∧ sj = .int .i64 B.length ∧ 0 < A.length ∧ 0 < B.length ∧ gg = A.length + B.length ∧ P.length + A.length = M ∧ P ++ B ++ A ++ S = x ++ v ++ u ++ y ∧ SortAt w0 wr g kb (P ++ A ++ B ++ S) ex)
  case atStart => exact ⟨x, u, v, y, rfl, rfl, hu, hv, rfl, hM.out, rfl, hh.out⟩
  case round =>
    obtain ⟨P, A, B, S, rfl, rfl, hA, hB, hgg, hPA, hout, hS⟩ := hrel
    have hln : n = (P ++ A ++ B ++ S).length := by
      have h1 := congrArg List.length hout
      have h2 := hnn.out
      simp only [List.length_append] at h1 ⊢
      omega
    have hPi := hid (show (M : Int) - A.length = P.length by omega)
    have hb1 : A.length ≤ M := by omega
    have hb2 : M + B.length ≤ 1000000 := by
      have h1 := hln
      simp only [List.length_append] at h1
      omega
    replace hPA := hid hPA
    replace hout := hid hout
    replace hgg := hid hgg
    by_cases hne : A.length = B.length
    · have hlast : Calls Try.prog 95 #[.slice (some ⟨g, 0, none⟩) n cap, .int .i64 (M - A.length), .int .i64 M, .int .i64 (A.length), cmpV kb] wr _ := swapRange_c (x := P) (u := A) (c := []) (v := B) (y := S) (by simpa using hS) hne (by rw [hln]; simp) hc hm _ _ _ hPi.out (by have := hPA.out; simp; omega) rfl
      unfold cmpV at hlast
      rw [← hne]
      replace hne := hid hne
      replace hlast := hid hlast
      replace hln := hid hln
      replace hS := hid hS
      go_wp2_with (first | (go_at_call 95; (with_reducible refine (hlast.out).mono ?_); rintro e w3 ⟨rfl, hS3⟩; replace hS3 := hid hS3))
      go_end0
      exact hfin.out _ (by have := hS3.out; rw [List.append_nil, hout.out] at this; exact this)
    · have hb3 : ((A.length : Int) != B.length) = true := by rw [bne_iff_ne]; omega
      by_cases hlt : B.length < A.length
      · have hsp : A = A.take B.length ++ A.drop B.length := (List.take_append_drop _ _).symm
        have hc1 : Calls Try.prog 95 #[.slice (some ⟨g, 0, none⟩) n cap, .int .i64 (M - A.length), .int .i64 M, .int .i64 (B.length), cmpV kb] wr _ := swapRange_c (x := P) (u := A.take B.length) (c := A.drop B.length) (v := B) (y := S) (by rw [List.append_assoc P, ← hsp]; exact hS) (by simp; omega) (by rw [List.append_assoc P, ← hsp]; exact hln) hc hm _ _ _ hPi.out (by have := hPA.out; simp; omega) (by simp; omega)
        have hS' := hid (fun w' (h : SortAt w0 w' g kb (P ++ B ++ A.drop B.length ++ A.take B.length ++ S) ex) => show SortAt w0 w' g kb ((P ++ B) ++ A.drop B.length ++ A.take B.length ++ S) ex from by simpa using h)
        have ho' := hid (show (P ++ B) ++ A.take B.length ++ A.drop B.length ++ S = x ++ v ++ u ++ y by rw [← hout.out]; simp only [List.append_assoc]; rw [← List.append_assoc (A.take B.length), List.take_append_drop])
        unfold cmpV at hc1
        have hd2 := hid (show (A.take B.length).length = B.length by simp; omega)
        have hd3 := hid (show (A.drop B.length).length = A.length - B.length by simp)
        clear hsp
        replace hc1 := hid hc1
        replace hln := hid hln
        replace hS := hid hS
        replace hne := hid hne
        go_wp2_with (first | (go_at_call 95; (with_reducible refine (hc1.out).mono ?_); rintro e w3 ⟨rfl, hS3⟩; replace hS3 := hid hS3))
        go_roundg (A.length)
        case rel => exact ⟨P ++ B, A.drop B.length, A.take B.length, S, by rw [hd3.out]; exact congrArg (Value.int .i64) (by omega), by rw [hd2.out], by rw [hd3.out]; omega, by rw [hd2.out]; omega, by rw [hd2.out, hd3.out]; omega, by have := hPA.out; rw [hd3.out]; simp; omega, ho'.out, hS'.out _ hS3.out⟩
        case measure => have := hgg.out; omega
      · have hgt : A.length < B.length := by omega
        have hsp : B = B.take (B.length - A.length) ++ B.drop (B.length - A.length) := (List.take_append_drop _ _).symm
        have hc1 : Calls Try.prog 95 #[.slice (some ⟨g, 0, none⟩) n cap, .int .i64 (M - A.length), .int .i64 (M + B.length - A.length), .int .i64 (A.length), cmpV kb] wr _ := swapRange_c (x := P) (u := A) (c := B.take (B.length - A.length)) (v := B.drop (B.length - A.length)) (y := S) (by rw [List.append_assoc (P ++ A), ← hsp]; exact hS) (by simp; omega) (by rw [List.append_assoc (P ++ A), ← hsp]; exact hln) hc hm _ _ _ hPi.out (by have := hPA.out; simp; omega) rfl
        have hS' := hid (fun w' (h : SortAt w0 w' g kb (P ++ B.drop (B.length - A.length) ++ B.take (B.length - A.length) ++ A ++ S) ex) => show SortAt w0 w' g kb (P ++ B.drop (B.length - A.length) ++ B.take (B.length - A.length) ++ (A ++ S)) ex from by simpa using h)
        have ho' := hid (show P ++ B.take (B.length - A.length) ++ B.drop (B.length - A.length) ++ (A ++ S) = x ++ v ++ u ++ y by rw [← hout.out]; simp only [List.append_assoc]; rw [← List.append_assoc (B.take (B.length - A.length)), List.take_append_drop])
        unfold cmpV at hc1
        have hd2 := hid (show (B.take (B.length - A.length)).length = B.length - A.length by simp)
        have hd3 := hid (show (B.drop (B.length - A.length)).length = A.length by simp; omega)
        clear hsp
        replace hc1 := hid hc1
        replace hln := hid hln
        replace hS := hid hS
        replace hne := hid hne
        go_wp2_with (first | (go_at_call 95; (with_reducible refine (hc1.out).mono ?_); rintro e w3 ⟨rfl, hS3⟩; replace hS3 := hid hS3))
        go_roundg (B.length)
        case rel => exact ⟨P, B.drop (B.length - A.length), B.take (B.length - A.length), A ++ S, by rw [hd3.out], by rw [hd2.out]; exact congrArg (Value.int .i64) (by omega), by rw [hd3.out]; omega, by rw [hd2.out]; omega, by rw [hd2.out, hd3.out]; omega, by have := hPA.out; rw [hd3.out]; omega, ho'.out, hS'.out _ hS3.out⟩
        case measure => have := hgg.out; omega
/-- What insertion sort leaves: the part sorted. -/
def SortPost (w0 : World) (g kb : Nat) (ex : List Value) (x u y : List (Value × Msg)) (e : Ending) (w' : World) : Prop := e = .returned (.tuple #[]) ∧ SortAt w0 w' g kb (x ++ sortL laneOf u ++ y) ex
theorem getLast_split {α : Type} (l : List α) : l = [] ∨ ∃ d a, l = d ++ [a] := by
  rcases List.eq_nil_or_concat l with h | ⟨d, a, h⟩
  · exact .inl h
  · exact .inr ⟨d, a, by simpa using h⟩
set_option maxHeartbeats 1000000 in
theorem insSort_c {w0 w : World} {g kb : Nat} {ex : List Value} {x u y : List (Value × Msg)} (h : SortAt w0 w g kb (x ++ u ++ y) ex) {n cap : Nat} (hn : n = (x ++ u ++ y).length) (hc : n ≤ cap) (hm : n ≤ 1000000) (a b : Int) (ha : a = x.length) (hb : b = x.length + u.length) :
    Calls Try.prog 92 #[.slice (some ⟨g, 0, none⟩) n cap, .int .i64 a, .int .i64 b, cmpV kb] w (SortPost w0 g kb ex x u y) := by
  subst ha hb
  have hnn : (n : Int) = x.length + u.length + y.length := by rw [hn]; simp; omega
  have hnN : n = x.length + u.length + y.length := by omega
  have hfin := hid (fun w' (h : SortAt w0 w' g kb (x ++ sortL laneOf u ++ y) ex) => show SortPost w0 g kb ex x u y (.returned (.tuple #[])) w' from ⟨rfl, h⟩)
  have hxb : x.length + u.length ≤ 1000000 := by omega
  have hh := hid h
  replace hn := hid hn
  replace hnn := hid hnn
  have hnN' := hid hnN
  have hnl : x.length + u.length ≤ n := by omega
  clear h hnN
  unfold cmpV
  go_enter Try.func92, Try.ntmps92
  go_wp2
  go_loopg [8, 9] (u.length - 1) (fun gg si _s9 wr => ∃ (k I : Nat), 1 ≤ k ∧ k ≤ max 1 u.length ∧ I = x.length + k ∧ si = .int .i64 I ∧ gg = u.length - k ∧ SortAt w0 wr g kb (x ++ sortL laneOf (u.take k) ++ u.drop k ++ y) ex)
  case atStart =>
    refine ⟨1, x.length + 1, by omega, by omega, rfl, by go_num, rfl, ?_⟩
    have h1 : sortL laneOf (u.take 1) = u.take 1 := sortL_srt_id (by rcases u with _ | ⟨p, r⟩; exact Srt.nil; exact Srt.one _)
    rw [h1, List.append_assoc x, List.take_append_drop]
    exact hh.out
  case round =>
    obtain ⟨k, I, hk1, hk, hI, rfl, hgk, hS⟩ := hrel
    by_cases hlt : k < u.length
    · have hdu : u.drop k = u[k] :: u.drop (k + 1) := List.drop_eq_getElem_cons hlt
      have htu : sortL laneOf (u.take (k + 1)) = insL laneOf u[k] (sortL laneOf (u.take k)) := by rw [List.take_succ_eq_append_getElem hlt, sortL_snoc]
      have hstb := insL_stab (e := u[k]) (sortL_srt (key := laneOf) (u.take k))
      have hsrt' := insL_srt (e := u[k]) (sortL_srt (key := laneOf) (u.take k))
      have hsrt := sortL_srt (key := laneOf) (u.take k)
      have hstl : (sortL laneOf (u.take k)).length = k := by rw [sortL_len]; simp; omega
      rw [hdu] at hS
      generalize sortL laneOf (u.take k) = d at hS htu hsrt hstl hstb hsrt'
      generalize u[k] = p at hS htu hstb hsrt'
      have hIn : I < n := by omega
      have hIm : I ≤ 1000000 := by omega
      have hlI : decide (I < x.length + u.length) = true := by simp; omega
      have hS1 : SortAt w0 wr g kb (x ++ d ++ p :: [] ++ (u.drop (k + 1) ++ y)) ex := by simpa using hS
      clear hS hdu
      replace htu := hid htu
      replace hstb := hid hstb
      replace hsrt := hid hsrt
      replace hsrt' := hid hsrt'
      have hI' := hid hI
      have hdl : d.length = k := hstl
      replace hstl := hid hstl
      have hkn := hid hnN'.out
      have hS1 := hid hS1
      go_wp2
      go_loopg [9] d.length (fun gg sj w2 => ∃ (d1 d2 : List (Value × Msg)) (J : Nat), d = d1 ++ d2 ∧ J = x.length + d1.length ∧ (∀ q ∈ d2, laneOf p < laneOf q) ∧ sj = .int .i64 J ∧ gg = d1.length ∧ SortAt w0 w2 g kb (x ++ d1 ++ p :: d2 ++ (u.drop (k + 1) ++ y)) ex)
      case atStart => exact ⟨d, [], I, by simp, by rw [hI, hdl], (fun q hq => by cases hq), rfl, rfl, hS1.out⟩
      case round =>
        obtain ⟨d1, d2, J, hd, hJ, hgt, rfl, hgj, hS⟩ := hrel
        have hJn : J < n := by have := congrArg List.length hd; simp at this; omega
        have hJm : J ≤ 1000000 := by omega
        rcases getLast_split d1 with rfl | ⟨d', l, rfl⟩
        · have hJ0 : J = x.length := by simpa using hJ
          have hg0 : decide (x.length < J) = false := by simp; omega
          have hst := ins_stop (key := laneOf) (d1 := []) (d2 := d2) (e := p) (by rw [← hd]; exact hsrt.out) hgt (.inl rfl)
          have he : insL laneOf p d = [] ++ p :: d2 := Srt.uniq hsrt'.out hst.1 (hstb.out.symm.trans (by rw [hd]; exact hst.2))
          have hS2 := hid (show SortAt w0 wr g kb (x ++ sortL laneOf (u.take (k + 1)) ++ u.drop (k + 1) ++ y) ex by rw [htu.out, he]; simpa using hS)
          replace hS := hid hS
          replace hd := hid hd
          clear hst he hgt hJ
          subst hJ0
          go_wp2
          go_quiet (fail)
          go_wp2
          go_roundg (u.length - (k + 1))
          case rel => exact ⟨k + 1, I + 1, by omega, by omega, by omega, by go_num, rfl, hS2.out.below (K.Below.drewN _ _ _)⟩
          case measure => omega
        · obtain ⟨J', hJJ⟩ : ∃ j, J = j + 1 := ⟨J - 1, by simp at hJ; omega⟩
          have hJ' : J' = x.length + d'.length := by simp at hJ; omega
          have hg1 : decide (x.length < J) = true := by simp; omega
          have hj1 : (J : Int) < n := by omega
          have hj2 : (J : Int) - 1 < n := by omega
          have hj3 : (0 : Int) ≤ (J : Int) - 1 := by omega
          have hj4 : 1 ≤ J := by omega
          have hwr : IntKind.i64.wrap ((J : Int) - 1) = (J : Int) - 1 := IntWalk.i64_in _ (by omega)
          have hj6 : (1 : Int) ≤ J := by omega
          have hj7 : (J : Int) ≤ n := by omega
          have hj8 : J ≤ n := by omega
          have hj5 : ((J : Int) - 1).toNat = J' := by omega
          have hL : x ++ (d' ++ [l]) ++ p :: d2 ++ (u.drop (k + 1) ++ y) = (x ++ d') ++ l :: [] ++ p :: (d2 ++ (u.drop (k + 1) ++ y)) := by simp
          have hL' : (x ++ d') ++ p :: [] ++ l :: (d2 ++ (u.drop (k + 1) ++ y)) = x ++ d' ++ p :: (l :: d2) ++ (u.drop (k + 1) ++ y) := by simp
          have hS' := hS
          rw [hL] at hS'
          obtain ⟨⟨a1, n1, c1, e1⟩, ⟨a2, n2, c2, e2⟩, hat1, hat2, -, hsw⟩ := hS'.two (i := J') (j := J) (by simp; omega) (by simp; omega)
          rw [hL'] at hsw
          have hkey := hS'.keyAt
          have hst : laneOf l ≤ laneOf p → SortAt w0 wr g kb (x ++ sortL laneOf (u.take (k + 1)) ++ u.drop (k + 1) ++ y) ex := fun hle => by
            have hst := ins_stop (key := laneOf) (d1 := d' ++ [l]) (d2 := d2) (e := p) (by rw [← hd]; exact hsrt.out) hgt (.inr ⟨d', l, rfl, hle⟩)
            have he : insL laneOf p d = (d' ++ [l]) ++ p :: d2 := Srt.uniq hsrt'.out hst.1 (hstb.out.symm.trans (by rw [hd]; exact hst.2))
            rw [htu.out, he]; simpa using hS
          have fz := fun o => hS.at_.frozen o
          replace hgt := hid hgt
          replace hd := hid hd
          replace hst := hid hst
          replace hsw := hid hsw
          replace hS := hid hS
          clear hL hL' hS' hJ
          obtain ⟨lv, lm⟩ := l
          obtain ⟨pv, pm⟩ := p
          simp only at e1 e2 hat1 hat2
          subst e1 e2
          have hA := hid hat1
          have hB := hid hat2
          obtain ⟨x0, x1, x2, x3, x4, hxl⟩ := hat1
          obtain ⟨y0, y1, y2, y3, y4, hyl⟩ := hat2
          have hcmp := hid (fun (w : World) (hk : KeyAt w kb) => cmp_c hk a2 a1 n2 c2 n1 c1 pm lm)
          have hkey := hid hkey
          have hdec := hid (cmpI_lt pm.lane lm.lane)
          replace hJ' := hid hJ'
          replace hJJ := hid hJJ
          replace hI := hid hI
          replace hdl := hid hdl
          replace hgj := hid hgj
          go_upto_region 4 with fail
          go_region_held3 (fun W => W.cell? ⟨g, J' * 5, none⟩ = some (.slice a1 n1 c1) ∧ W.cell? ⟨g, J' * 5 + 1, none⟩ = some (.int .i64 lm.lane) ∧ W.cell? ⟨g, J' * 5 + 2, none⟩ = some (.int .i64 lm.stamp) ∧ W.cell? ⟨g, J' * 5 + 3, none⟩ = some (.int .i64 lm.late) ∧ W.cell? ⟨g, J' * 5 + 4, none⟩ = some (.int .i64 lm.seq) ∧ W.cell? ⟨g, J * 5, none⟩ = some (.slice a2 n2 c2) ∧ W.cell? ⟨g, J * 5 + 1, none⟩ = some (.int .i64 pm.lane) ∧ W.cell? ⟨g, J * 5 + 2, none⟩ = some (.int .i64 pm.stamp) ∧ W.cell? ⟨g, J * 5 + 3, none⟩ = some (.int .i64 pm.late) ∧ W.cell? ⟨g, J * 5 + 4, none⟩ = some (.int .i64 pm.seq))
            (first | go_keep | ((try dsimp only); (repeat' apply And.intro) <;> go_keep))
            (first | (go_at_call 84; (with_reducible refine (hcmp.out wr.drew (hkey.out.of rfl)).mono ?_); rintro e w3 ⟨rfl, hb3⟩; replace hb3 := Below.ofDrew hb3; obtain ⟨u0, u1, u2, u3, u4, -⟩ := hA.out.below hb3; obtain ⟨v0, v1, v2, v3, v4, -⟩ := hB.out.below hb3; replace hb3 := hid hb3))
          rw [hdec.out]
          by_cases hlt2 : pm.lane < lm.lane
          · rw [decide_eq_true hlt2]
            have hsw3 : SortAt w0 (put5 (put5 w3 g (J * 5) (.slice a1 n1 c1, lm)) g (J' * 5) (.slice a2 n2 c2, pm)).drew g kb (x ++ d' ++ (.slice a2 n2 c2, pm) :: ((.slice a1 n1 c1, lm) :: d2) ++ (u.drop (k + 1) ++ y)) ex := by
              have h3 := hS.out.below hb3.out
              have hL : x ++ (d' ++ [(Value.slice a1 n1 c1, lm)]) ++ (Value.slice a2 n2 c2, pm) :: d2 ++ (u.drop (k + 1) ++ y) = (x ++ d') ++ (Value.slice a1 n1 c1, lm) :: [] ++ (Value.slice a2 n2 c2, pm) :: (d2 ++ (u.drop (k + 1) ++ y)) := by simp
              rw [hL] at h3
              obtain ⟨-, -, -, -, -, hsw⟩ := h3.two (i := J') (j := J) (by have := hJ'.out; simp; omega) (by have := hJ'.out; have := hJJ.out; simp; omega)
              simpa using hsw
            replace hsw3 := hid hsw3
            have hgt2 := hid (show ∀ q ∈ (Value.slice a1 n1 c1, lm) :: d2, laneOf (Value.slice a2 n2 c2, pm) < laneOf q from fun q hq => by rcases List.mem_cons.1 hq with rfl | hq; exact hlt2; exact hgt.out q hq)
            have fz3 := fun o => (hS.out.below hb3.out).at_.frozen o
            have hxl3 : g < w3.heap.size := Nat.lt_of_lt_of_le hxl hb3.out.size
            clear x0 x1 x2 x3 x4 y0 y1 y2 y3 y4 fz hdec hlt2
            go_upto_region 6 with fail
            go_region
            have hfin := hsw3.out
            unfold put5 at hfin
            simp only at hfin
            go_wp2
            go_roundg (d'.length)
            case rel => exact ⟨d', (Value.slice a1 n1 c1, lm) :: d2, J', by rw [hd.out]; simp, hJ'.out, hgt2.out, by have := hJJ.out; exact congrArg (Value.int .i64) (by omega), rfl, hfin⟩
            case measure => have := hgj.out; simp at this; omega
          · rw [decide_eq_false hlt2]
            have hS3 := hid ((hst.out (by unfold laneOf; simp only; omega)).below hb3.out)
            clear x0 x1 x2 x3 x4 y0 y1 y2 y3 y4 fz hdec hlt2
            go_wp2
            go_roundg (u.length - (k + 1))
            case rel => exact ⟨k + 1, I + 1, by omega, by omega, by have := hI.out; omega, by go_num, rfl, hS3.out⟩
            case measure => omega
    · have hge : decide (I < x.length + u.length) = false := by simp; omega
      have hfin2 := hfin.out wr (by rw [List.take_of_length_le (by omega), List.drop_of_length_le (by omega), List.append_nil] at hS; exact hS)
      replace hfin2 := hid hfin2
      clear hS
      go_wp2
      go_end0
      exact hfin2.out
end Go.Proofs.Ytealopempjempaa.So
