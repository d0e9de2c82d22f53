/- DERIVED. Walks: the sort of messages by their lanes (slices.SortStableFunc at lane's closures). No statement is proved here. -/
import Derived.Test.YtealopempjempaaK3
import Derived.Test.YtealopempjempaaSortP
import Derived.Deep.LoopGhost
import Derived.Deep.DeepCutAuto
import Derived.Deep.CutBlock
import Derived.BigRegion
namespace Go.Proofs.Ytealopempjempaa.So
set_option linter.unusedVariables false
set_option linter.unusedSimpArgs false
open Go.RowKit Go.Proofs.Ytealopempjempaa.K Go.Proofs.Ytealopempjempaa.Sp
theorem all1_c (w : World) (a : Option Addr) (n c : Nat) (m : Msg) : Calls Try.prog 73 #[.agg #[.slice a n c, .int .i64 m.lane, .int .i64 m.stamp, .int .i64 m.late, .int .i64 m.seq]] w fun e w' => e = .returned (.int .i64 m.lane) ∧ Below w.heap.size w w' := by
  go_enter Try.func73, Try.ntmps73
  go_wp2
  go_ret
  exact ⟨rfl, (Below.refl _ _).alloc (Nat.le_refl _) _⟩
theorem split1_c (w : World) (a : Option Addr) (n c : Nat) (m : Msg) : Calls Try.prog 81 #[.agg #[.slice a n c, .int .i64 m.lane, .int .i64 m.stamp, .int .i64 m.late, .int .i64 m.seq]] w fun e w' => e = .returned (.int .i64 m.lane) ∧ Below w.heap.size w w' := by
  go_enter Try.func81, Try.ntmps81
  go_wp2
  go_ret
  exact ⟨rfl, (Below.refl _ _).alloc (Nat.le_refl _) _⟩
/-- cmp.Compare. -/
def cmpI (x y : Int) : Int := if x < y then -1 else if y < x then 1 else 0
theorem cmpI_lt (x y : Int) : (decide (cmpI x y < 0)) = decide (x < y) := by
  unfold cmpI
  by_cases h : x < y <;> by_cases h2 : y < x <;> simp [h, h2]
theorem isNaN_c (w : World) (x : Int) : Calls Try.prog 90 #[.int .i64 x] w fun e w' => e = .returned (.bool false) ∧ w = w' := by
  go_enter Try.func90, Try.ntmps90
  go_wp2
  go_ret
  exact ⟨rfl, rfl⟩
theorem compare_c (w : World) (x y : Int) : Calls Try.prog 85 #[.int .i64 x, .int .i64 y] w fun e w' => e = .returned (.int .i64 (cmpI x y)) ∧ w = w' := by
  have e0 : cmpI x y = if x < y then -1 else if y < x then 1 else 0 := rfl
  rcases (show x < y ∨ y < x ∨ x = y by omega) with h | h | h
  · rw [if_pos h] at e0
    have e0 := hid e0
    have h1 : decide (x < y) = true := by simpa using h
    go_enter Try.func85, Try.ntmps85
    go_wp2_with (first | (go_at_call 90; (with_reducible refine (isNaN_c _ _).mono ?_); rintro e w' ⟨rfl, rfl⟩))
    all_goals go_ret
    all_goals exact ⟨by rw [e0.out] <;> rfl, rfl⟩
  · rw [if_neg (by omega), if_pos h] at e0
    have e0 := hid e0
    have h1 : decide (x < y) = false := by simp; omega
    have h2 : decide (y < x) = true := by simpa using h
    go_enter Try.func85, Try.ntmps85
    go_wp2_with (first | (go_at_call 90; (with_reducible refine (isNaN_c _ _).mono ?_); rintro e w' ⟨rfl, rfl⟩))
    all_goals go_ret
    all_goals exact ⟨by rw [e0.out] <;> rfl, rfl⟩
  · subst h
    rw [if_neg (by omega), if_neg (by omega)] at e0
    have e0 := hid e0
    go_enter Try.func85, Try.ntmps85
    go_wp2_with (first | (go_at_call 90; (with_reducible refine (isNaN_c _ _).mono ?_); rintro e w' ⟨rfl, rfl⟩))
    all_goals go_ret
    all_goals exact ⟨by rw [e0.out] <;> rfl, rfl⟩
/-- The box of the key: one of the two closures that give a message's lane. -/
def KeyAt (w : World) (kb : Nat) : Prop := w.cell? ⟨kb, 0, none⟩ = some (.func (.func 73) #[] #[]) ∨ w.cell? ⟨kb, 0, none⟩ = some (.func (.func 81) #[] #[])
theorem KeyAt.of {w w' : World} {kb : Nat} (h : KeyAt w kb) (e : w'.heap[kb]? = w.heap[kb]?) : KeyAt w' kb := by
  rcases h with h | h
  · exact .inl ((World.cell?_of_block e).trans h)
  · exact .inr ((World.cell?_of_block e).trans h)
theorem KeyAt.lt {w : World} {kb : Nat} (h : KeyAt w kb) : kb < w.heap.size := by
  have e : ∃ v, w.cell? ⟨kb, 0, none⟩ = some v := by rcases h with h | h; exact ⟨_, h⟩; exact ⟨_, h⟩
  obtain ⟨v, hv⟩ := e
  unfold World.cell? at hv
  split at hv
  · rename_i h1; exact (Array.getElem?_eq_some_iff.1 h1).1
  · cases hv
set_option maxHeartbeats 1000000 in
theorem cmp_c {w : World} {kb : Nat} (hk : KeyAt w kb) (a b : Option Addr) (n c n' c' : Nat) (m m' : Msg) : Calls Try.prog 84 #[.agg #[.slice a n c, .int .i64 m.lane, .int .i64 m.stamp, .int .i64 m.late, .int .i64 m.seq], .agg #[.slice b n' c', .int .i64 m'.lane, .int .i64 m'.stamp, .int .i64 m'.late, .int .i64 m'.seq], .pointer (some ⟨kb, 0, none⟩)] w fun e w' => e = .returned (.int .i64 (cmpI m.lane m'.lane)) ∧ Below w.heap.size w w' := by
  have hl := hk.lt
  have hlt1 : kb ≠ w.heap.size := by omega
  have hlt2 : kb ≠ w.heap.size + 1 := by omega
  have hb := ((Below.refl w.heap.size w).alloc (Nat.le_refl _) (.cells #[.slice a n c, .int .i64 m.lane, .int .i64 m.stamp, .int .i64 m.late, .int .i64 m.seq] 37)).alloc (by simp) (.cells #[.slice b n' c', .int .i64 m'.lane, .int .i64 m'.stamp, .int .i64 m'.late, .int .i64 m'.seq] 37)
  have hA : At5 ((w.alloc (.cells #[.slice a n c, .int .i64 m.lane, .int .i64 m.stamp, .int .i64 m.late, .int .i64 m.seq] 37)).alloc (.cells #[.slice b n' c', .int .i64 m'.lane, .int .i64 m'.stamp, .int .i64 m'.late, .int .i64 m'.seq] 37)) w.heap.size 0 (.slice a n c) m := (At5.of_pts (pts.newA w _ _)).below ((Below.refl _ _).alloc (Nat.le_refl _) _)
  have hB : At5 ((w.alloc (.cells #[.slice a n c, .int .i64 m.lane, .int .i64 m.stamp, .int .i64 m.late, .int .i64 m.seq] 37)).alloc (.cells #[.slice b n' c', .int .i64 m'.lane, .int .i64 m'.stamp, .int .i64 m'.late, .int .i64 m'.seq] 37)) (w.heap.size + 1) 0 (.slice b n' c') m' := by
    have := At5.of_pts (pts.newA (w.alloc (.cells #[.slice a n c, .int .i64 m.lane, .int .i64 m.stamp, .int .i64 m.late, .int .i64 m.seq] 37)) #[.slice b n' c', .int .i64 m'.lane, .int .i64 m'.stamp, .int .i64 m'.late, .int .i64 m'.seq] 37)
    simpa using this
  have hs1 : w.heap.size < ((w.alloc (.cells #[.slice a n c, .int .i64 m.lane, .int .i64 m.stamp, .int .i64 m.late, .int .i64 m.seq] 37)).alloc (.cells #[.slice b n' c', .int .i64 m'.lane, .int .i64 m'.stamp, .int .i64 m'.late, .int .i64 m'.seq] 37)).heap.size := by simp; omega
  rcases hk with hk | hk
  · have hk2 := (hb.cell (p := ⟨kb, 0, none⟩) hl).trans hk
    go_enter Try.func84, Try.ntmps84
    go_upto_region 1 with fail
    generalize ((w.alloc (.cells #[.slice a n c, .int .i64 m.lane, .int .i64 m.stamp, .int .i64 m.late, .int .i64 m.seq] 37)).alloc (.cells #[.slice b n' c', .int .i64 m'.lane, .int .i64 m'.stamp, .int .i64 m'.late, .int .i64 m'.seq] 37)) = W at hb hA hB hs1 hk2 ⊢
    have hb := hid hb
    clear hk
    have hkl : kb < W.heap.size := by omega
    generalize w.heap.size + 1 = B2 at hlt2 hB ⊢
    generalize hB1 : w.heap.size = B1 at hlt1 hA hs1 hl ⊢
    replace hB1 := hid hB1
    have hA' := hid hA
    have hB' := hid hB
    obtain ⟨x0, x1, x2, x3, x4, hxl⟩ := hA
    obtain ⟨y0, y1, y2, y3, y4, hyl⟩ := hB
    simp only [Nat.zero_add] at x0 x1 x2 x3 x4 y0 y1 y2 y3 y4
    go_region_held3 (fun W => W.cell? ⟨kb, 0, none⟩ = some (.func (.func 73) #[] #[]) ∧ W.cell? ⟨B1, 0, none⟩ = some (.slice a n c) ∧ W.cell? ⟨B1, 1, none⟩ = some (.int .i64 m.lane) ∧ W.cell? ⟨B1, 2, none⟩ = some (.int .i64 m.stamp) ∧ W.cell? ⟨B1, 3, none⟩ = some (.int .i64 m.late) ∧ W.cell? ⟨B1, 4, none⟩ = some (.int .i64 m.seq) ∧ W.cell? ⟨B2, 0, none⟩ = some (.slice b n' c') ∧ W.cell? ⟨B2, 1, none⟩ = some (.int .i64 m'.lane) ∧ W.cell? ⟨B2, 2, none⟩ = some (.int .i64 m'.stamp) ∧ W.cell? ⟨B2, 3, none⟩ = some (.int .i64 m'.late) ∧ W.cell? ⟨B2, 4, none⟩ = some (.int .i64 m'.seq))
      (first | go_keep | ((try dsimp only); (repeat' apply And.intro) <;> go_keep))
      (first | (go_at_call 85; (with_reducible refine (compare_c _ _ _).mono ?_); rintro e w5 ⟨rfl, rfl⟩) | (go_at_call 73; (with_reducible refine (all1_c _ a n c m).mono ?_); rintro e w3 ⟨rfl, hb3⟩; have hb3 := Below.ofDrew hb3; have k3 := (hb3.cell (p := ⟨kb, 0, none⟩) hkl).trans hk2; obtain ⟨u0, u1, u2, u3, u4, -⟩ := hA'.out.below hb3; obtain ⟨v0, v1, v2, v3, v4, -⟩ := hB'.out.below hb3; simp only [Nat.zero_add] at u0 u1 u2 u3 u4 v0 v1 v2 v3 v4; have hb3 := hid hb3) | (go_at_call 73; (with_reducible refine (all1_c _ b n' c' m').mono ?_); rintro e w4 ⟨rfl, hb4⟩; have hb4 := Below.next hb3.out hb4 hb3.out.size; have k3 := (hb4.cell (p := ⟨kb, 0, none⟩) hkl).trans hk2; obtain ⟨u0, u1, u2, u3, u4, -⟩ := hA'.out.below hb4; obtain ⟨v0, v1, v2, v3, v4, -⟩ := hB'.out.below hb4; simp only [Nat.zero_add] at u0 u1 u2 u3 u4 v0 v1 v2 v3 v4; have hb4 := hid hb4))
    go_wp2
    go_ret
    exact ⟨rfl, Below.next hb.out hb4.out hb.out.size⟩
  · have hk2 := (hb.cell (p := ⟨kb, 0, none⟩) hl).trans hk
    go_enter Try.func84, Try.ntmps84
    go_upto_region 1 with fail
    generalize ((w.alloc (.cells #[.slice a n c, .int .i64 m.lane, .int .i64 m.stamp, .int .i64 m.late, .int .i64 m.seq] 37)).alloc (.cells #[.slice b n' c', .int .i64 m'.lane, .int .i64 m'.stamp, .int .i64 m'.late, .int .i64 m'.seq] 37)) = W at hb hA hB hs1 hk2 ⊢
    have hb := hid hb
    clear hk
    have hkl : kb < W.heap.size := by omega
    generalize w.heap.size + 1 = B2 at hlt2 hB ⊢
    generalize hB1 : w.heap.size = B1 at hlt1 hA hs1 hl ⊢
    replace hB1 := hid hB1
    have hA' := hid hA
    have hB' := hid hB
    obtain ⟨x0, x1, x2, x3, x4, hxl⟩ := hA
    obtain ⟨y0, y1, y2, y3, y4, hyl⟩ := hB
    simp only [Nat.zero_add] at x0 x1 x2 x3 x4 y0 y1 y2 y3 y4
    go_region_held3 (fun W => W.cell? ⟨kb, 0, none⟩ = some (.func (.func 81) #[] #[]) ∧ W.cell? ⟨B1, 0, none⟩ = some (.slice a n c) ∧ W.cell? ⟨B1, 1, none⟩ = some (.int .i64 m.lane) ∧ W.cell? ⟨B1, 2, none⟩ = some (.int .i64 m.stamp) ∧ W.cell? ⟨B1, 3, none⟩ = some (.int .i64 m.late) ∧ W.cell? ⟨B1, 4, none⟩ = some (.int .i64 m.seq) ∧ W.cell? ⟨B2, 0, none⟩ = some (.slice b n' c') ∧ W.cell? ⟨B2, 1, none⟩ = some (.int .i64 m'.lane) ∧ W.cell? ⟨B2, 2, none⟩ = some (.int .i64 m'.stamp) ∧ W.cell? ⟨B2, 3, none⟩ = some (.int .i64 m'.late) ∧ W.cell? ⟨B2, 4, none⟩ = some (.int .i64 m'.seq))
      (first | go_keep | ((try dsimp only); (repeat' apply And.intro) <;> go_keep))
      (first | (go_at_call 85; (with_reducible refine (compare_c _ _ _).mono ?_); rintro e w5 ⟨rfl, rfl⟩) | (go_at_call 81; (with_reducible refine (split1_c _ a n c m).mono ?_); rintro e w3 ⟨rfl, hb3⟩; have hb3 := Below.ofDrew hb3; have k3 := (hb3.cell (p := ⟨kb, 0, none⟩) hkl).trans hk2; obtain ⟨u0, u1, u2, u3, u4, -⟩ := hA'.out.below hb3; obtain ⟨v0, v1, v2, v3, v4, -⟩ := hB'.out.below hb3; simp only [Nat.zero_add] at u0 u1 u2 u3 u4 v0 v1 v2 v3 v4; have hb3 := hid hb3) | (go_at_call 81; (with_reducible refine (split1_c _ b n' c' m').mono ?_); rintro e w4 ⟨rfl, hb4⟩; have hb4 := Below.next hb3.out hb4 hb3.out.size; have k3 := (hb4.cell (p := ⟨kb, 0, none⟩) hkl).trans hk2; obtain ⟨u0, u1, u2, u3, u4, -⟩ := hA'.out.below hb4; obtain ⟨v0, v1, v2, v3, v4, -⟩ := hB'.out.below hb4; simp only [Nat.zero_add] at u0 u1 u2 u3 u4 v0 v1 v2 v3 v4; have hb4 := hid hb4))
    go_wp2
    go_ret
    exact ⟨rfl, Below.next hb.out hb4.out hb.out.size⟩
/-- Message i is written anew, cell by cell. -/
def put5 (w : World) (g o : Nat) (p : Value × Msg) : World := ((((w.setCell ⟨g, o, none⟩ p.1).setCell ⟨g, o + 1, none⟩ (.int .i64 p.2.lane)).setCell ⟨g, o + 2, none⟩ (.int .i64 p.2.stamp)).setCell ⟨g, o + 3, none⟩ (.int .i64 p.2.late)).setCell ⟨g, o + 4, none⟩ (.int .i64 p.2.seq)
theorem put5_pts {w : World} {g : Nat} {T : TypeId} {s : List (Value × Msg)} {ex : List Value} (h : pts w g (flat encM s ++ ex) T) {i : Nat} (hi : i < s.length) (p : Value × Msg) : pts (put5 w g (i * 5) p) g (flat encM (s.set i p) ++ ex) T := by
  have st : ∀ {w : World} {s : List (Value × Msg)} (hi : i < s.length) (j : Nat) (hj : j < 5) (v : Value) (y : Value × Msg), pts w g (flat encM s ++ ex) T → encM y = (encM s[i]).set j v → pts (w.setCell ⟨g, i * 5 + j, none⟩ v) g (flat encM (s.set i y) ++ ex) T := fun hi j hj v y h hy => by
    have := h.set (i * 5 + j) v
    rwa [flat_set encM_len _ _ _ _ hi hj v y hy] at this
  have h0 := st hi 0 (by omega) p.1 (p.1, s[i].2) h rfl
  have h1 := st (by simpa using hi) 1 (by omega) (.int .i64 p.2.lane) (p.1, { s[i].2 with lane := p.2.lane }) h0 (by simp [encM])
  have h2 := st (by simpa using hi) 2 (by omega) (.int .i64 p.2.stamp) (p.1, { s[i].2 with lane := p.2.lane, stamp := p.2.stamp }) h1 (by simp [encM])
  have h3 := st (by simpa using hi) 3 (by omega) (.int .i64 p.2.late) (p.1, { s[i].2 with lane := p.2.lane, stamp := p.2.stamp, late := p.2.late }) h2 (by simp [encM])
  have h4 := st (by simpa using hi) 4 (by omega) (.int .i64 p.2.seq) p h3 (by simp [encM])
  simp only [List.set_set] at h4
  exact h4
theorem put5_other (w : World) {g o b : Nat} (p : Value × Msg) (h : b ≠ g) : (put5 w g o p).heap[b]? = w.heap[b]? := by
  unfold put5
  rw [Below.heap_setCell _ _ _ _ h, Below.heap_setCell _ _ _ _ h, Below.heap_setCell _ _ _ _ h, Below.heap_setCell _ _ _ _ h, Below.heap_setCell _ _ _ _ h]
theorem put5_size (w : World) (g o : Nat) (p : Value × Msg) : (put5 w g o p).heap.size = w.heap.size := by unfold put5; simp
theorem put5_below {B g o : Nat} {w0 w : World} {p : Value × Msg} (h : Below B w0 w) (hg : B ≤ g) : Below B w0 (put5 w g o p) := ((((h.setCell hg _).setCell hg _).setCell hg _).setCell hg _).setCell hg _
theorem put5_ints {ok : Nat → Prop} {w : World} {v : Value} {xs : List Int} {g o : Nat} {p : Value × Msg} (h : IntsAt ok w v xs) (hg : ∀ b, ok b → b < w.heap.size → b ≠ g) : IntsAt ok (put5 w g o p) v xs := h.kept (by rw [put5_size]; exact Nat.le_refl _) (fun b h1 h2 => put5_other w p (hg b h1 h2))
def Row (g : Nat) : Nat → Prop := fun c => c = g
theorem put5_chg {w0 w : World} {g o : Nat} {p : Value × Msg} (h : Chg (Row g) w0 w) : Chg (Row g) w0 (put5 w g o p) := ((((h.setB rfl).setB rfl).setB rfl).setB rfl).setB rfl
/-- The row as the sort has it: the messages s, and more behind; the box of the key. -/
structure SortAt (w0 w : World) (g kb : Nat) (s : List (Value × Msg)) (ex : List Value) : Prop where
  at_ : pts w g (flat encM s ++ ex) 37
  chg : Chg (Row g) w0 w
  key : KeyAt w0 kb
  ne : kb ≠ g
  sh : ∀ p ∈ s, ∃ a n c, p.1 = .slice a n c
section
variable {w0 w w' : World} {g kb : Nat} {s : List (Value × Msg)} {ex : List Value}
theorem SortAt.keyAt (h : SortAt w0 w g kb s ex) : KeyAt w kb := h.key.of (h.chg.block kb h.key.lt h.ne)
theorem SortAt.below (h : SortAt w0 w g kb s ex) (hb : Below w.heap.size w w') : SortAt w0 w' g kb s ex := ⟨h.at_.below hb, h.chg.below hb, h.key, h.ne, h.sh⟩
theorem SortAt.put2 (h : SortAt w0 w g kb s ex) {i j : Nat} (hi : i < s.length) (hj : j < s.length) : SortAt w0 (put5 (put5 w g (i * 5) s[j]) g (j * 5) s[i]) g kb ((s.set i s[j]).set j s[i]) ex :=
  ⟨put5_pts (put5_pts h.at_ hi _) (by simpa using hj) _, put5_chg (put5_chg h.chg), h.key, h.ne, fun p hp => by
    rcases List.mem_or_eq_of_mem_set hp with hp | rfl
    · rcases List.mem_or_eq_of_mem_set hp with hp | rfl
      · exact h.sh p hp
      · exact h.sh _ (List.getElem_mem hj)
    · exact h.sh _ (List.getElem_mem hi)⟩
/-- Message i's cells. -/
theorem SortAt.get (h : SortAt w0 w g kb s ex) {i : Nat} (hi : i < s.length) : ∃ a n c, s[i] = (.slice a n c, s[i].2) ∧ At5 w g (i * 5) (.slice a n c) s[i].2 := by
  obtain ⟨a, n, c, e⟩ := h.sh _ (List.getElem_mem hi)
  have hc : ∀ j, j < 5 → w.cell? ⟨g, i * 5 + j, none⟩ = (encM s[i])[j]? := fun j hj => by rw [h.at_.cell, flat_get encM_len s ex i j hi hj]
  exact ⟨a, n, c, by rw [← e], ⟨by rw [← e]; exact hc 0 (by omega), hc 1 (by omega), hc 2 (by omega), hc 3 (by omega), hc 4 (by omega), h.at_.lt⟩⟩
end
end Go.Proofs.Ytealopempjempaa.So
