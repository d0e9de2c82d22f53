/- DERIVED. Walks: slices' symMerge at messages, whole; SortStableFunc; lane's sorted. No statement is proved here. -/
import Derived.Test.YtealopempjempaaSortY
import Derived.Test.YtealopempjempaaLibA
namespace Go.Proofs.Ytealopempjempaa.So
set_option linter.unusedVariables false
set_option linter.unusedSimpArgs false
open Go.RowKit Go.Proofs.Ytealopempjempaa.K Go.Proofs.Ytealopempjempaa.Sp Go.Proofs.Ytealopempjempaa.Lb
/-- The joining of two sorted rows of fewer than N messages. -/
def SymOk (N : Nat) : Prop := ∀ (w0 w : World) (g kb : Nat) (ex : List Value) (x u v y : List (Value × Msg)) (n cap : Nat) (a m b : Int), u.length + v.length < N → SortAt w0 w g kb (x ++ (u ++ v) ++ y) ex → Srt laneOf u → Srt laneOf v → 0 < u.length → 0 < v.length → n = (x ++ (u ++ v) ++ y).length → n ≤ cap → n ≤ 1000000 →
  a = x.length → m = x.length + u.length → b = x.length + u.length + v.length → Calls Try.prog 93 #[.slice (some ⟨g, 0, none⟩) n cap, .int .i64 a, .int .i64 m, .int .i64 b, cmpV kb] w (SortPost w0 g kb ex x (u ++ v) y)
theorem sym_split {u v : List (Value × Msg)} (hu : Srt laneOf u) (hv : Srt laneOf v) {i j : Nat} (hi : i ≤ u.length) (hj : j ≤ v.length) (h1 : ∀ (a : i < u.length) (b : 0 < j), laneOf (v[j - 1]'(by omega)) < laneOf u[i]) (h2 : ∀ (a : 0 < i) (b : j < v.length), laneOf (u[i - 1]'(by omega)) ≤ laneOf v[j]) :
    (∀ q ∈ u.drop i, ∀ r ∈ v.take j, laneOf r < laneOf q) ∧ (∀ q ∈ u.take i, ∀ r ∈ v.drop j, laneOf q ≤ laneOf r) := by
  refine ⟨fun q hq r hr => ?_, fun q hq r hr => ?_⟩
  · have hiu : i < u.length := by have := List.length_pos_of_mem hq; simp at this; omega
    have hj0 : 0 < j := by have := List.length_pos_of_mem hr; simp at this; omega
    have e1 := srt_drop hu hiu hq
    have e2 : laneOf r ≤ laneOf (v[j - 1]'(by omega)) := srt_take hv (by omega) (by rwa [show j - 1 + 1 = j by omega])
    have := h1 hiu hj0
    omega
  · have hi0 : 0 < i := by have := List.length_pos_of_mem hq; simp at this; omega
    have hjv : j < v.length := by have := List.length_pos_of_mem hr; simp at this; omega
    have e1 := srt_drop hv hjv hr
    have e2 : laneOf q ≤ laneOf (u[i - 1]'(by omega)) := srt_take hu (by omega) (by rwa [show i - 1 + 1 = i by omega])
    have := h2 hi0 hjv
    omega
/-- A message's lane by its place. -/
def La (l : List (Value × Msg)) (i : Nat) : Int := if h : i < l.length then laneOf l[i] else 0
theorem La_eq {l : List (Value × Msg)} {i : Nat} (h : i < l.length) : La l i = laneOf l[i] := by unfold La; rw [dif_pos h]
theorem La_mono {l : List (Value × Msg)} (hs : Srt laneOf l) {i j : Nat} (hij : i ≤ j) (hj : j < l.length) : La l i ≤ La l j := by
  rw [La_eq (by omega), La_eq hj]; exact hs.at_ (by omega) hj hij
theorem sym_split' {u v : List (Value × Msg)} (hu : Srt laneOf u) (hv : Srt laneOf v) {i j : Nat} (hi : i ≤ u.length) (hj : j ≤ v.length) (h1 : i < u.length → 0 < j → La v (j - 1) < La u i) (h2 : 0 < i → j < v.length → La u (i - 1) ≤ La v j) :
    sortL laneOf (u ++ v) = sortL laneOf (u.take i ++ v.take j) ++ sortL laneOf (u.drop i ++ v.drop j) := by
  obtain ⟨k1, k2⟩ := sym_split hu hv hi hj (fun a b => by have := h1 a b; rwa [La_eq (by omega), La_eq (by omega)] at this) (fun a b => by have := h2 a b; rwa [La_eq (by omega), La_eq (by omega)] at this)
  have hj := sym_join (key := laneOf) (u1 := u.take i) (u2 := u.drop i) (v1 := v.take j) (v2 := v.drop j) (by rw [List.take_append_drop]; exact hu) (by rw [List.take_append_drop]; exact hv) k1 k2 (sortL_stab _) (sortL_srt _) (sortL_stab _) (sortL_srt _)
  rw [List.take_append_drop, List.take_append_drop] at hj
  exact (sortL_of hj.1 hj.2).symm
set_option maxHeartbeats 4000000 in
set_option maxRecDepth 100000 in
theorem sym_step (N : Nat) (ih : Hid (SymOk N)) {w0 w : World} {g kb : Nat} {ex : List Value} {x u v y : List (Value × Msg)} {n cap : Nat} (hN : u.length + v.length ≤ N) (h : SortAt w0 w g kb (x ++ (u ++ v) ++ y) ex) (hu : Srt laneOf u) (hv : Srt laneOf v) (hu2 : 2 ≤ u.length) (hv2 : 2 ≤ v.length) (hn : n = (x ++ (u ++ v) ++ y).length) (hc : n ≤ cap) (hm : n ≤ 1000000) (a m b : Int) (ha : a = x.length) (hmm : m = x.length + u.length) (hb : b = x.length + u.length + v.length) :
    Calls Try.prog 93 #[.slice (some ⟨g, 0, none⟩) n cap, .int .i64 a, .int .i64 m, .int .i64 b, cmpV kb] w (SortPost w0 g kb ex x (u ++ v) y) := by
  have hnN : n = x.length + u.length + v.length + y.length := by rw [hn]; simp; omega
  obtain ⟨A, hA⟩ : ∃ A, A = x.length := ⟨_, rfl⟩
  obtain ⟨M, hM⟩ : ∃ M, M = x.length + u.length := ⟨_, rfl⟩
  obtain ⟨B, hB⟩ : ∃ B, B = x.length + u.length + v.length := ⟨_, rfl⟩
  have ha' : a = (A : Int) := by omega
  have hm' : m = (M : Int) := by omega
  have hb' : b = (B : Int) := by omega
  subst ha' hm' hb'
  clear ha hmm hb
  have hBn : B ≤ n := by omega
  have hB1 : B ≤ 1000000 := by omega
  have hAM : A + 2 ≤ M := by omega
  have hMB : M + 2 ≤ B := by omega
  have hh := hid h
  replace hn := hid hn
  replace hnN := hid hnN
  replace hu := hid hu
  replace hv := hid hv
  have hA' := hid hA
  have hM' := hid hM
  have hB' := hid hB
  have hN' := hid hN
  clear h hA hM hB hN
  have e2 : (((M : Int) - A) == 1) = false := by rw [beq_eq_false_iff_ne]; omega
  have e3 : (((B : Int) - M) == 1) = false := by rw [beq_eq_false_iff_ne]; omega
  unfold cmpV
  go_enter Try.func93, Try.ntmps93
  go_upto_if 140 with fail
  obtain ⟨D, hD⟩ : ∃ D : Nat, ((A : Int) + (B : Int)) / 2 = D := ⟨(A + B) / 2, by omega⟩
  rw [hD]
  have hD1 : A + B ≤ 2 * D + 1 := by omega
  have hD2 : 2 * D ≤ A + B := by omega
  clear hD
  go_cut [20, 21] (fun vs vr wx => wx = w ∧ ∃ S0 R0 : Nat, vs = .int .i64 S0 ∧ vr = .int .i64 R0 ∧ ((S0 = A ∧ R0 = M ∧ M ≤ D) ∨ (S0 + B = D + M ∧ R0 = D ∧ D < M)))
  case first =>
    by_cases hmid : D < M
    · have hs1 : (D : Int) + M - B = ((D + M - B : Nat) : Int) := by omega
      go_wp2
      go_meet
      case rel => exact ⟨rfl, D + M - B, D, rfl, rfl, .inr ⟨by omega, rfl, hmid⟩⟩
    · go_wp2
      go_meet
      case rel => exact ⟨rfl, A, M, rfl, rfl, .inl ⟨rfl, rfl, by omega⟩⟩
  case rest =>
    obtain ⟨rfl, S0, R0, rfl, rfl, hcase⟩ := hcut
    have hSR : S0 ≤ R0 := by omega
    have hAS : A ≤ S0 := by omega
    have hRM : R0 ≤ M := by omega
    have hcase' := hid hcase
    clear hcase
    go_wp2
    go_loopg [20, 21] (R0 - S0) (fun gg vs vr wr => ∃ S R : Nat, S0 ≤ S ∧ S ≤ R ∧ R ≤ R0 ∧ vs = .int .i64 S ∧ vr = .int .i64 R ∧ gg = R - S ∧ (∀ c, S0 ≤ c → c < S → La u (c - A) ≤ La v (D + M - 1 - c - M)) ∧ (∀ c, R ≤ c → c < R0 → La v (D + M - 1 - c - M) < La u (c - A)) ∧ SortAt w0 wr g kb (x ++ (u ++ v) ++ y) ex)
    case atStart => exact ⟨S0, R0, by omega, hSR, by omega, rfl, rfl, rfl, fun c h1 h2 => by omega, fun c h1 h2 => by omega, hh.out⟩
    case round =>
      obtain ⟨S, R, hS0, hSRr, hRR, rfl, rfl, hgg, hlo, hhi, hS⟩ := hrel
      by_cases hlt : S < R
      · go_upto_region 35 with fail
        obtain ⟨C, hC⟩ : ∃ C : Nat, ((S : Int) + (R : Int)) / 2 = C := ⟨(S + R) / 2, by omega⟩
        rw [hC]
        have hC1 : S ≤ C := by omega
        have hC2 : C < R := by omega
        clear hC
        have hcs := hcase'.out
        have hA := hA'.out
        have hM := hM'.out
        have hB := hB'.out
        obtain ⟨Q, hQ⟩ : ∃ Q : Nat, (D : Int) + M - 1 - C = Q := ⟨D + M - 1 - C, by omega⟩
        have hQ1 : M ≤ Q := by omega
        have hQ2 : Q < B := by omega
        have hCu : C - A < u.length := by omega
        have hQv : Q - M < v.length := by omega
        obtain ⟨a1, n1, c1, m1, hl1, hat1⟩ := hS.getAt (z := u ++ v) (i := u.length + (Q - M)) (by simp; omega) (I := Q) (by omega)
        obtain ⟨a2, n2, c2, m2, hl2, hat2⟩ := hS.getAt (z := u ++ v) (i := C - A) (by simp; omega) (I := C) (by omega)
        rw [List.getElem_append_left hCu] at hl2
        rw [List.getElem_append_right (by omega)] at hl1
        have hl1 : La v (Q - M) = m1.lane := by rw [La_eq hQv, ← hl1]; congr 2; omega
        have hl2 : La u (C - A) = m2.lane := by rw [La_eq hCu, ← hl2]
        have hQe : D + M - 1 - C - M = Q - M := by omega
        have hlo' : m2.lane ≤ m1.lane → ∀ c, S0 ≤ c → c < C + 1 → La u (c - A) ≤ La v (D + M - 1 - c - M) := fun hle c h1 h2 => by
          have k1 := La_mono hu.out (show c - A ≤ C - A by omega) hCu
          have k2 := La_mono hv.out (show Q - M ≤ D + M - 1 - c - M by omega) (by omega)
          omega
        have hhi' : m1.lane < m2.lane → ∀ c, C ≤ c → c < R0 → La v (D + M - 1 - c - M) < La u (c - A) := fun hle c h1 h2 => by
          have k1 := La_mono hu.out (show C - A ≤ c - A by omega) (by omega)
          have k2 := La_mono hv.out (show D + M - 1 - c - M ≤ Q - M by omega) hQv
          omega
        have hCM : C ≤ M := by omega
        have hCn : C < n := by omega
        have hQn : Q < n := by omega
        have hwr1 : IntKind.i64.wrap ((D : Int) + M - 1 - C) = Q := by rw [hQ]; exact IntWalk.i64_in _ (by omega)
        clear hQ hcs hA hM hB hl1 hl2 hQe
        replace hlo := hid hlo
        replace hhi := hid hhi
        replace hlo' := hid hlo'
        replace hhi' := hid hhi'
        replace hgg := hid hgg
        have hcmp := hid (fun (w : World) (hk : KeyAt w kb) => cmp_c hk a1 a2 n1 c1 n2 c2 m1 m2)
        have hkey := hid hS.keyAt
        have hA := hid hat1
        have hB := hid hat2
        obtain ⟨x0, x1, x2, x3, x4, hxl⟩ := hat1
        obtain ⟨y0, y1, y2, y3, y4, hyl⟩ := hat2
        replace hS := hid hS
        go_region_held3 (fun W => W.cell? ⟨g, Q * 5, none⟩ = some (.slice a1 n1 c1) ∧ W.cell? ⟨g, Q * 5 + 1, none⟩ = some (.int .i64 m1.lane) ∧ W.cell? ⟨g, Q * 5 + 2, none⟩ = some (.int .i64 m1.stamp) ∧ W.cell? ⟨g, Q * 5 + 3, none⟩ = some (.int .i64 m1.late) ∧ W.cell? ⟨g, Q * 5 + 4, none⟩ = some (.int .i64 m1.seq) ∧ W.cell? ⟨g, C * 5, none⟩ = some (.slice a2 n2 c2) ∧ W.cell? ⟨g, C * 5 + 1, none⟩ = some (.int .i64 m2.lane) ∧ W.cell? ⟨g, C * 5 + 2, none⟩ = some (.int .i64 m2.stamp) ∧ W.cell? ⟨g, C * 5 + 3, none⟩ = some (.int .i64 m2.late) ∧ W.cell? ⟨g, C * 5 + 4, none⟩ = some (.int .i64 m2.seq))
          (first | go_keep | ((try dsimp only); (repeat' apply And.intro) <;> go_keep))
          (first | (go_at_call 84; (with_reducible refine (hcmp.out wr.drew (hkey.out.of rfl)).mono ?_); rintro e w3 ⟨rfl, hb3⟩; replace hb3 := Below.ofDrew hb3; obtain ⟨u0, u1, u2, u3, u4, -⟩ := hA.out.below hb3; obtain ⟨v0, v1, v2, v3, v4, -⟩ := hB.out.below hb3; replace hb3 := hid hb3))
        rw [cmpI_lt]
        clear x0 x1 x2 x3 x4 y0 y1 y2 y3 y4 u0 u1 u2 u3 u4 v0 v1 v2 v3 v4 hA hB hcmp hkey
        by_cases hlt2 : m1.lane < m2.lane
        · rw [decide_eq_true hlt2]
          replace hhi' := hid (hhi'.out hlt2)
          clear hlt2
          go_wp2
          go_roundg (C - S)
          case rel => exact ⟨S, C, hS0, hC1, by omega, rfl, rfl, rfl, hlo.out, hhi'.out, hS.out.below hb3.out⟩
          case measure => have := hgg.out; omega
        · rw [decide_eq_false hlt2]
          replace hlo' := hid (hlo'.out (by omega))
          clear hlt2
          go_wp2
          go_roundg (R - (C + 1))
          case rel => exact ⟨C + 1, R, by omega, by omega, hRR, by go_num, rfl, rfl, hlo'.out, hhi.out, hS.out.below hb3.out⟩
          case measure => have := hgg.out; omega
      · obtain rfl : S = R := by omega
        have hcs := hcase'.out
        have hA := hA'.out
        have hM := hM'.out
        have hB := hB'.out
        obtain ⟨E, hE⟩ : ∃ E : Nat, (D : Int) + M - S = E := ⟨D + M - S, by omega⟩
        have hEM : M ≤ E := by omega
        have hEB : E ≤ B := by omega
        have hSM : S ≤ M := by omega
        have hSA : A ≤ S := by omega
        have hEn : E = D + M - S := by omega
        have hi : S - A ≤ u.length := by omega
        have hj : E - M ≤ v.length := by omega
        have hspl := sym_split' hu.out hv.out hi hj (fun a b => by
          have := hhi S (Nat.le_refl _) (by omega)
          rwa [show D + M - 1 - S - M = E - M - 1 by omega] at this) (fun a b => by
          have := hlo (S - 1) (by omega) (by omega)
          rwa [show D + M - 1 - (S - 1) - M = E - M by omega, show S - 1 - A = S - A - 1 by omega] at this)
        have hwr1 : IntKind.i64.wrap ((D : Int) + M - S) = E := by rw [hE]; exact IntWalk.i64_in _ (by omega)
        have hu1 : u = u.take (S - A) ++ u.drop (S - A) := (List.take_append_drop _ _).symm
        have hv1 : v = v.take (E - M) ++ v.drop (E - M) := (List.take_append_drop _ _).symm
        have lu1 : (u.take (S - A)).length = S - A := by simp; omega
        have lu2 : (u.drop (S - A)).length = M - S := by simp; omega
        have lv1 : (v.take (E - M)).length = E - M := by simp; omega
        have lv2 : (v.drop (E - M)).length = B - E := by simp; omega
        have su1 : Srt laneOf (u.take (S - A)) := by have := hu.out; rw [hu1] at this; exact this.left
        have su2 : Srt laneOf (u.drop (S - A)) := by have := hu.out; rw [hu1] at this; exact this.right
        have sv1 : Srt laneOf (v.take (E - M)) := by have := hv.out; rw [hv1] at this; exact this.left
        have sv2 : Srt laneOf (v.drop (E - M)) := by have := hv.out; rw [hv1] at this; exact this.right
        have hfin : ∀ w', SortAt w0 w' g kb (x ++ sortL laneOf (u.take (S - A) ++ v.take (E - M)) ++ sortL laneOf (u.drop (S - A) ++ v.drop (E - M)) ++ y) ex → SortPost w0 g kb ex x (u ++ v) y (.returned (.tuple #[])) w' := fun w' h => ⟨rfl, by rw [hspl, ← List.append_assoc]; exact h⟩
        have hS1 : SortAt w0 wr g kb (x ++ (u.take (S - A) ++ u.drop (S - A) ++ (v.take (E - M) ++ v.drop (E - M))) ++ y) ex := by rw [← hu1, ← hv1]; exact hS
        have hNN := hN'.out
        clear hspl hS hlo hhi hu1 hv1
        generalize u.take (S - A) = u1 at *
        generalize u.drop (S - A) = u2 at *
        generalize v.take (E - M) = v1 at *
        generalize v.drop (E - M) = v2 at *
        have hSD : S + E = D + M := by omega
        have hDn : D ≤ 1000000 := by omega
        have hSB : S ≤ 1000000 := by omega
        have hnn := hnN.out
        have hS2 := hid (fun (w' : World) (h : SortAt w0 w' g kb (x ++ (u1 ++ u2 ++ (v1 ++ v2)) ++ y) ex) (he : u2 = [] ∨ v1 = []) => show SortAt w0 w' g kb (x ++ (u1 ++ v1) ++ (u2 ++ v2 ++ y)) ex from by rcases he with rfl | rfl <;> simpa using h)
        have hS3 := hid (fun (w' : World) (h : SortAt w0 w' g kb (x ++ (u1 ++ v1) ++ (u2 ++ v2 ++ y)) ex) (he : u1 = [] ∨ v1 = []) => show SortAt w0 w' g kb (x ++ sortL laneOf (u1 ++ v1) ++ (u2 ++ v2 ++ y)) ex from by
          have e : sortL laneOf (u1 ++ v1) = u1 ++ v1 := sortL_srt_id (by rcases he with rfl | rfl; simpa using sv1; simpa using su1)
          rw [e]; exact h)
        have hS4 := hid (fun (w' : World) (h : SortAt w0 w' g kb (x ++ sortL laneOf (u1 ++ v1) ++ (u2 ++ v2 ++ y)) ex) (he : u2 = [] ∨ v2 = []) => show SortPost w0 g kb ex x (u ++ v) y (.returned (.tuple #[])) w' from hfin w' (by
          have e : sortL laneOf (u2 ++ v2) = u2 ++ v2 := sortL_srt_id (by rcases he with rfl | rfl; simpa using sv2; simpa using su2)
          rw [e]; simpa using h))
        have hR : Hid (∀ w', SortAt w0 w' g kb (x ++ (u1 ++ u2 ++ (v1 ++ v2)) ++ y) ex → S < M → M < E → Calls Try.prog 94 #[.slice (some ⟨g, 0, none⟩) n cap, .int .i64 S, .int .i64 M, .int .i64 E, cmpV kb] w' (SwapPost w0 g kb ex ((x ++ u1) ++ v1 ++ u2 ++ (v2 ++ y)))) := hid fun w' h a b => rotate_c (x := x ++ u1) (u := u2) (v := v1) (y := v2 ++ y) (by simpa using h) (by simp; omega) hc hm (by omega) (by omega) _ _ _ (by simp; omega) (by simp; omega) (by simp; omega)
        have hM1 : Hid (∀ w', SortAt w0 w' g kb (x ++ (u1 ++ v1) ++ (u2 ++ v2 ++ y)) ex → A < S → S < D → Calls Try.prog 93 #[.slice (some ⟨g, 0, none⟩) n cap, .int .i64 A, .int .i64 S, .int .i64 D, cmpV kb] w' (SortPost w0 g kb ex x (u1 ++ v1) (u2 ++ v2 ++ y))) := hid fun w' h a b => ih.out w0 w' g kb ex x u1 v1 (u2 ++ v2 ++ y) n cap _ _ _ (by omega) h su1 sv1 (by omega) (by omega) (by simp; omega) hc hm (by omega) (by omega) (by omega)
        have hM2 : Hid (∀ w', SortAt w0 w' g kb (x ++ sortL laneOf (u1 ++ v1) ++ (u2 ++ v2 ++ y)) ex → D < E → E < B → Calls Try.prog 93 #[.slice (some ⟨g, 0, none⟩) n cap, .int .i64 D, .int .i64 E, .int .i64 B, cmpV kb] w' (SortPost w0 g kb ex (x ++ sortL laneOf (u1 ++ v1)) (u2 ++ v2) y)) := hid fun w' h a b => ih.out w0 w' g kb ex (x ++ sortL laneOf (u1 ++ v1)) u2 v2 y n cap _ _ _ (by omega) (by simpa using h) su2 sv2 (by omega) (by omega) (by simp [sortL_len]; omega) hc hm (by simp [sortL_len]; omega) (by simp [sortL_len]; omega) (by simp [sortL_len]; omega)
        replace hfin := hid hfin
        replace hS1 := hid hS1
        have e0 : ∀ l : List (Value × Msg), l.length = 0 → l = [] := fun l h => List.eq_nil_of_length_eq_zero h
        have z1 := hid (show ¬ (S < M ∧ M < E) → u2 = [] ∨ v1 = [] from fun hx => by by_cases h1 : S < M; exact .inr (e0 _ (by omega)); exact .inl (e0 _ (by omega)))
        have z2 := hid (show ¬ (A < S ∧ S < D) → u1 = [] ∨ v1 = [] from fun hx => by by_cases h1 : A < S; exact .inr (e0 _ (by omega)); exact .inl (e0 _ (by omega)))
        have z3 := hid (show ¬ (D < E ∧ E < B) → u2 = [] ∨ v2 = [] from fun hx => by by_cases h1 : D < E; exact .inr (e0 _ (by omega)); exact .inl (e0 _ (by omega)))
        clear e0 hcs hA hM hB hE hEn hi hj lu1 lu2 lv1 lv2 su1 su2 sv1 sv2 hNN hnn hcase'
        unfold cmpV at hR hM1 hM2
        by_cases h1 : S < M
        · by_cases h2 : M < E
          · by_cases h3 : A < S
            · by_cases h6 : E < B
              · have h5 : D < E := by omega
                have h4 : S < D := by omega
                go_upto_if 199 with (first | (go_at_call 94; (with_reducible refine (hR.out _ hS1.out h1 h2).mono ?_); rintro e w3 ⟨rfl, hw3⟩; have hX : Hid (SortAt w0 w3 g kb (x ++ (u1 ++ v1) ++ (u2 ++ v2 ++ y)) ex) := hid (by simpa using hw3); clear hw3))
                go_upto_if 213 with (first | (go_at_call 93; (with_reducible refine (hM1.out _ hX.out h3 h4).mono ?_); rintro e w4 ⟨rfl, hw4⟩; have hY := hid hw4; clear hw4))
                go_wp2_with (first | (go_at_call 93; (with_reducible refine (hM2.out _ hY.out h5 h6).mono ?_); rintro e w5 ⟨rfl, hw5⟩; have hZ := hid (hfin.out _ hw5); clear hw5))
                go_end0
                exact hZ.out
              · have h5 : D < E := by omega
                have h4 : S < D := by omega
                go_upto_if 199 with (first | (go_at_call 94; (with_reducible refine (hR.out _ hS1.out h1 h2).mono ?_); rintro e w3 ⟨rfl, hw3⟩; have hX : Hid (SortAt w0 w3 g kb (x ++ (u1 ++ v1) ++ (u2 ++ v2 ++ y)) ex) := hid (by simpa using hw3); clear hw3))
                go_upto_if 213 with (first | (go_at_call 93; (with_reducible refine (hM1.out _ hX.out h3 h4).mono ?_); rintro e w4 ⟨rfl, hw4⟩; have hY := hid hw4; clear hw4))
                have hZ := hid (hS4.out _ hY.out (z3.out (by omega)))
                go_wp2
                go_end0
                exact hZ.out
            · by_cases h6 : E < B
              · have h5 : D < E := by omega
                have h4 : S < D := by omega
                go_upto_if 199 with (first | (go_at_call 94; (with_reducible refine (hR.out _ hS1.out h1 h2).mono ?_); rintro e w3 ⟨rfl, hw3⟩; have hX : Hid (SortAt w0 w3 g kb (x ++ (u1 ++ v1) ++ (u2 ++ v2 ++ y)) ex) := hid (by simpa using hw3); clear hw3))
                have hY := hid (hS3.out _ hX.out (z2.out (by omega)))
                go_upto_if 213 with fail
                go_wp2_with (first | (go_at_call 93; (with_reducible refine (hM2.out _ hY.out h5 h6).mono ?_); rintro e w5 ⟨rfl, hw5⟩; have hZ := hid (hfin.out _ hw5); clear hw5))
                go_end0
                exact hZ.out
              · have h5 : D < E := by omega
                have h4 : S < D := by omega
                go_upto_if 199 with (first | (go_at_call 94; (with_reducible refine (hR.out _ hS1.out h1 h2).mono ?_); rintro e w3 ⟨rfl, hw3⟩; have hX : Hid (SortAt w0 w3 g kb (x ++ (u1 ++ v1) ++ (u2 ++ v2 ++ y)) ex) := hid (by simpa using hw3); clear hw3))
                have hY := hid (hS3.out _ hX.out (z2.out (by omega)))
                go_upto_if 213 with fail
                have hZ := hid (hS4.out _ hY.out (z3.out (by omega)))
                go_wp2
                go_end0
                exact hZ.out
          · by_cases h3 : A < S
            · by_cases h6 : E < B
              · have h5 : D < E := by omega
                have h4 : ¬ S < D := by omega
                have hX := hid (hS2.out _ hS1.out (z1.out (by omega)))
                go_upto_if 199 with fail
                have hY := hid (hS3.out _ hX.out (z2.out (by omega)))
                go_upto_if 213 with fail
                go_wp2_with (first | (go_at_call 93; (with_reducible refine (hM2.out _ hY.out h5 h6).mono ?_); rintro e w5 ⟨rfl, hw5⟩; have hZ := hid (hfin.out _ hw5); clear hw5))
                go_end0
                exact hZ.out
              · have h5 : D < E := by omega
                have h4 : ¬ S < D := by omega
                have hX := hid (hS2.out _ hS1.out (z1.out (by omega)))
                go_upto_if 199 with fail
                have hY := hid (hS3.out _ hX.out (z2.out (by omega)))
                go_upto_if 213 with fail
                have hZ := hid (hS4.out _ hY.out (z3.out (by omega)))
                go_wp2
                go_end0
                exact hZ.out
            · by_cases h6 : E < B
              · have h5 : D < E := by omega
                have h4 : ¬ S < D := by omega
                have hX := hid (hS2.out _ hS1.out (z1.out (by omega)))
                go_upto_if 199 with fail
                have hY := hid (hS3.out _ hX.out (z2.out (by omega)))
                go_upto_if 213 with fail
                go_wp2_with (first | (go_at_call 93; (with_reducible refine (hM2.out _ hY.out h5 h6).mono ?_); rintro e w5 ⟨rfl, hw5⟩; have hZ := hid (hfin.out _ hw5); clear hw5))
                go_end0
                exact hZ.out
              · have h5 : D < E := by omega
                have h4 : ¬ S < D := by omega
                have hX := hid (hS2.out _ hS1.out (z1.out (by omega)))
                go_upto_if 199 with fail
                have hY := hid (hS3.out _ hX.out (z2.out (by omega)))
                go_upto_if 213 with fail
                have hZ := hid (hS4.out _ hY.out (z3.out (by omega)))
                go_wp2
                go_end0
                exact hZ.out
        · by_cases h2 : M < E
          · by_cases h3 : A < S
            · by_cases h6 : E < B
              · have h5 : ¬ D < E := by omega
                have h4 : S < D := by omega
                have hX := hid (hS2.out _ hS1.out (z1.out (by omega)))
                go_upto_if 199 with fail
                go_upto_if 213 with (first | (go_at_call 93; (with_reducible refine (hM1.out _ hX.out h3 h4).mono ?_); rintro e w4 ⟨rfl, hw4⟩; have hY := hid hw4; clear hw4))
                have hZ := hid (hS4.out _ hY.out (z3.out (by omega)))
                go_wp2
                go_end0
                exact hZ.out
              · have h5 : ¬ D < E := by omega
                have h4 : S < D := by omega
                have hX := hid (hS2.out _ hS1.out (z1.out (by omega)))
                go_upto_if 199 with fail
                go_upto_if 213 with (first | (go_at_call 93; (with_reducible refine (hM1.out _ hX.out h3 h4).mono ?_); rintro e w4 ⟨rfl, hw4⟩; have hY := hid hw4; clear hw4))
                have hZ := hid (hS4.out _ hY.out (z3.out (by omega)))
                go_wp2
                go_end0
                exact hZ.out
            · by_cases h6 : E < B
              · have h5 : ¬ D < E := by omega
                have h4 : S < D := by omega
                have hX := hid (hS2.out _ hS1.out (z1.out (by omega)))
                go_upto_if 199 with fail
                have hY := hid (hS3.out _ hX.out (z2.out (by omega)))
                go_upto_if 213 with fail
                have hZ := hid (hS4.out _ hY.out (z3.out (by omega)))
                go_wp2
                go_end0
                exact hZ.out
              · have h5 : ¬ D < E := by omega
                have h4 : S < D := by omega
                have hX := hid (hS2.out _ hS1.out (z1.out (by omega)))
                go_upto_if 199 with fail
                have hY := hid (hS3.out _ hX.out (z2.out (by omega)))
                go_upto_if 213 with fail
                have hZ := hid (hS4.out _ hY.out (z3.out (by omega)))
                go_wp2
                go_end0
                exact hZ.out
          · by_cases h3 : A < S
            · by_cases h6 : E < B
              · have h5 : ¬ D < E := by omega
                have h4 : ¬ S < D := by omega
                have hX := hid (hS2.out _ hS1.out (z1.out (by omega)))
                go_upto_if 199 with fail
                have hY := hid (hS3.out _ hX.out (z2.out (by omega)))
                go_upto_if 213 with fail
                have hZ := hid (hS4.out _ hY.out (z3.out (by omega)))
                go_wp2
                go_end0
                exact hZ.out
              · have h5 : ¬ D < E := by omega
                have h4 : ¬ S < D := by omega
                have hX := hid (hS2.out _ hS1.out (z1.out (by omega)))
                go_upto_if 199 with fail
                have hY := hid (hS3.out _ hX.out (z2.out (by omega)))
                go_upto_if 213 with fail
                have hZ := hid (hS4.out _ hY.out (z3.out (by omega)))
                go_wp2
                go_end0
                exact hZ.out
            · by_cases h6 : E < B
              · have h5 : ¬ D < E := by omega
                have h4 : ¬ S < D := by omega
                have hX := hid (hS2.out _ hS1.out (z1.out (by omega)))
                go_upto_if 199 with fail
                have hY := hid (hS3.out _ hX.out (z2.out (by omega)))
                go_upto_if 213 with fail
                have hZ := hid (hS4.out _ hY.out (z3.out (by omega)))
                go_wp2
                go_end0
                exact hZ.out
              · have h5 : ¬ D < E := by omega
                have h4 : ¬ S < D := by omega
                have hX := hid (hS2.out _ hS1.out (z1.out (by omega)))
                go_upto_if 199 with fail
                have hY := hid (hS3.out _ hX.out (z2.out (by omega)))
                go_upto_if 213 with fail
                have hZ := hid (hS4.out _ hY.out (z3.out (by omega)))
                go_wp2
                go_end0
                exact hZ.out
end Go.Proofs.Ytealopempjempaa.So
