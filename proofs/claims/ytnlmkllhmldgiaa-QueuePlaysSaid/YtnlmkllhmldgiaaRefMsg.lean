/- DERIVED. The walks over the reference's words on messages: late, one, the same list. -/
import Derived.Test.YtnlmkllhmldgiaaLibA
import Derived.Test.YtnlmkllhmldgiaaRef01
import Derived.Deep.LoopGhost
import Derived.Deep.DeepCutAuto
import Derived.Deep.CutBlock
namespace Go.Proofs.Ytnlmkllhmldgiaa.R2
set_option linter.unusedVariables false
set_option linter.unusedSimpArgs false
open Go.RowKit Go.Proofs.Ytnlmkllhmldgiaa.K Go.Proofs.Ytnlmkllhmldgiaa.Lb
theorem lateAt (now l : Int) : (cutT now ≥ cutT l) = (cutT l ≤ cutT now) := rfl
theorem late_c (w : World) (a : Option Addr) (n c : Nat) (m : Msg) (now : Int) : Calls Try.prog 42 #[.agg #[.slice a n c, .int .i64 m.lane, .int .i64 m.stamp, .int .i64 m.late, .int .i64 m.seq], .int .i64 now] w fun e w' => e = .returned (.bool (lateT now m.late)) ∧ Below w.heap.size w w' := by
  go_enter Try.func42, Try.ntmps42
  go_wp2
  go_region_held3 (fun W => W.cell? ⟨w.heap.size, 3, none⟩ = some (.int .i64 m.late))
    (first | go_keep | ((try dsimp only); (repeat' apply And.intro) <;> go_keep))
    (first | (go_at_call 41; (with_reducible refine (rcut_c _ _).mono ?_); rintro e w' ⟨rfl, rfl⟩))
  go_wp2
  go_ret
  exact ⟨rbool (by unfold lateT; simp), ((Below.refl _ _).alloc (Nat.le_refl _) _).drew⟩
theorem drewnB {B : Nat} {w0 w : World} (h : Below B w0 w) (k : Nat) : Below B w0 (w.drewN k) := ⟨h.os, h.tape, h.output, h.size, h.block⟩
/-- Two messages are one: the same words, the same numbers. -/
def oneM (a b : Msg) : Bool := decide (a.words = b.words) && (a.lane == b.lane) && (a.stamp == b.stamp) && (a.late == b.late) && (a.seq == b.seq)
theorem oneM_iff (a b : Msg) : oneM a b = true ↔ a = b := by
  cases a; cases b
  simp [oneM, and_assoc]
theorem one_c {ok1 ok2 : Nat → Prop} {w : World} {p q : Value × Msg} (hp : IntsAt ok1 w p.1 p.2.words) (hq : IntsAt ok2 w q.1 q.2.words) :
    Calls Try.prog 24 #[.agg #[p.1, .int .i64 p.2.lane, .int .i64 p.2.stamp, .int .i64 p.2.late, .int .i64 p.2.seq], .agg #[q.1, .int .i64 q.2.lane, .int .i64 q.2.stamp, .int .i64 q.2.late, .int .i64 q.2.seq]] w fun e w' => e = .returned (.bool (oneM p.2 q.2)) ∧ Below w.heap.size w w' := by
  obtain ⟨sv, m⟩ := p
  obtain ⟨tv, m'⟩ := q
  simp only at hp hq ⊢
  obtain ⟨a1, c1, rfl⟩ := hp.shape
  obtain ⟨a2, c2, rfl⟩ := hq.shape
  have hb2 := ((Below.refl w.heap.size w).alloc (Nat.le_refl _) (.cells #[.slice a1 m.words.length c1, .int .i64 m.lane, .int .i64 m.stamp, .int .i64 m.late, .int .i64 m.seq] 27)).alloc (by simp) (.cells #[.slice a2 m'.words.length c2, .int .i64 m'.lane, .int .i64 m'.stamp, .int .i64 m'.late, .int .i64 m'.seq] 27)
  have hp2 := hid (hp.below hb2)
  have hq2 := hid (hq.below hb2)
  have hb2 := hid hb2
  clear hp hq
  unfold oneM
  generalize hdw : decide (m.words = m'.words) = dw
  have hs := hid (fun (w : World) h1 h2 => (R1.same_c (w := w) (ok1 := ok1) (ok2 := ok2) (v1 := .slice a1 m.words.length c1) (v2 := .slice a2 m'.words.length c2) (xs := m.words) (ys := m'.words) h1 h2))
  cases dw
  · go_enter Try.func24, Try.ntmps24
    go_wp2_with (first | (go_at_call 23; (with_reducible refine (hs.out _ hp2.out hq2.out).mono ?_); rw [hdw]; rintro e w3 ⟨rfl, k, rfl⟩))
    all_goals go_ret
    all_goals exact ⟨rbool (by simp), drewnB (((Below.refl _ _).alloc (Nat.le_refl _) _).alloc (by simp) _) _⟩
  · go_enter Try.func24, Try.ntmps24
    go_wp2_with (first | (go_at_call 23; (with_reducible refine (hs.out _ hp2.out hq2.out).mono ?_); rw [hdw]; rintro e w3 ⟨rfl, k, rfl⟩))
    all_goals go_ret
    all_goals exact ⟨rbool (by simp_all), drewnB (((Below.refl _ _).alloc (Nat.le_refl _) _).alloc (by simp) _) _⟩
/-- Two lists of messages are the same. -/
def sameL : List Msg → List Msg → Bool
  | [], [] => true
  | a :: x, b :: y => oneM a b && sameL x y
  | _, _ => false
theorem sameL_iff : ∀ (x y : List Msg), sameL x y = true ↔ x = y
  | [], [] => by simp [sameL]
  | [], _ :: _ => by simp [sameL]
  | _ :: _, [] => by simp [sameL]
  | a :: x, b :: y => by simp [sameL, oneM_iff, sameL_iff x y]
theorem sameL_self (x : List Msg) : sameL x x = true := (sameL_iff x x).2 rfl
theorem sameL_len {x y : List Msg} (h : x.length ≠ y.length) : sameL x y = false := by
  cases hs : sameL x y with
  | false => rfl
  | true => exact absurd (congrArg List.length ((sameL_iff x y).1 hs)) h
theorem sameL_at {x y : List Msg} {k : Nat} (hx : k < x.length) (hy : k < y.length) (h : oneM x[k] y[k] = false) : sameL x y = false := by
  cases hs : sameL x y with
  | false => rfl
  | true =>
    have e := (sameL_iff x y).1 hs
    subst e
    rw [(oneM_iff _ _).2 rfl] at h; cases h
theorem sameL_all {x y : List Msg} (hl : x.length = y.length) (h : ∀ k (hx : k < x.length) (hy : k < y.length), oneM x[k] y[k] = true) : sameL x y = true :=
  (sameL_iff x y).2 (List.ext_getElem hl (fun k h1 h2 => (oneM_iff _ _).1 (h k h1 h2)))
def SamePost (w : World) (x y : List Msg) (e : Ending) (w' : World) : Prop := e = .returned (.bool (sameL x y)) ∧ Below w.heap.size w w'
set_option maxHeartbeats 2000000 in
theorem same_c {ok ok' okw okw' : Nat → Prop} {w : World} {v v' : Value} {ps qs : List (Value × Msg)} (hp : MsgsAt ok okw w v ps) (hq : MsgsAt ok' okw' w v' qs) :
    Calls Try.prog 22 #[v, v'] w (SamePost w (ps.map (·.2)) (qs.map (·.2))) := by
  obtain ⟨a1, c1, rfl⟩ := hp.shape
  obtain ⟨a2, c2, rfl⟩ := hq.shape
  obtain ⟨-, hl1, hm1, g1⟩ := hp.get
  obtain ⟨-, hl2, hm2, g2⟩ := hq.get
  by_cases hlen : ps.length = qs.length
  · have hlen' := hid hlen
    have g1 := hid g1
    have g2 := hid g2
    clear hp hq
    rw [← hlen] at hl2 ⊢
    clear hlen
    go_enter Try.func22, Try.ntmps22
    go_wp2
    go_loopg [5] ps.length (fun g i wr => ∃ k : Nat, k ≤ ps.length ∧ g = ps.length - k ∧ i = .int .i64 k ∧ Below w.heap.size w wr ∧ ∀ j (h1 : j < ps.length) (h2 : j < qs.length), j < k → oneM ps[j].2 qs[j].2 = true)
    case atStart => exact ⟨0, Nat.zero_le _, rfl, rfl, Below.refl _ _, fun j _ _ h => by omega⟩
    case round =>
      obtain ⟨k, hk, hgk, rfl, hb, hall⟩ := hrel
      by_cases hlt : k < ps.length
      · have hlq : k < qs.length := by have := hlen'.out; omega
        obtain ⟨ga, oa, rfl, -, hga, x0, x1, x2, x3, x4, hw1⟩ := g1.out k hlt
        obtain ⟨gb, ob, rfl, -, hgb, y0, y1, y2, y3, y4, hw2⟩ := g2.out k hlq
        have x0 := (hb.cell (p := ⟨ga, oa + k * 5, none⟩) hga).trans x0
        have x1 := (hb.cell (p := ⟨ga, oa + k * 5 + 1, none⟩) hga).trans x1
        have x2 := (hb.cell (p := ⟨ga, oa + k * 5 + 2, none⟩) hga).trans x2
        have x3 := (hb.cell (p := ⟨ga, oa + k * 5 + 3, none⟩) hga).trans x3
        have x4 := (hb.cell (p := ⟨ga, oa + k * 5 + 4, none⟩) hga).trans x4
        have y0 := (hb.cell (p := ⟨gb, ob + k * 5, none⟩) hgb).trans y0
        have y1 := (hb.cell (p := ⟨gb, ob + k * 5 + 1, none⟩) hgb).trans y1
        have y2 := (hb.cell (p := ⟨gb, ob + k * 5 + 2, none⟩) hgb).trans y2
        have y3 := (hb.cell (p := ⟨gb, ob + k * 5 + 3, none⟩) hgb).trans y3
        have y4 := (hb.cell (p := ⟨gb, ob + k * 5 + 4, none⟩) hgb).trans y4
        have hw1 := hw1.below hb
        have hw2 := hw2.below hb
        obtain ⟨as1, cs1, hs1⟩ := hw1.shape
        obtain ⟨as2, cs2, hs2⟩ := hw2.shape
        have hstep := hid (fun (h : oneM ps[k].2 qs[k].2 = true) => show ∀ j (h1 : j < ps.length) (h2 : j < qs.length), j < k + 1 → oneM ps[j].2 qs[j].2 = true from fun j h1 h2 hj => by
          by_cases hjk : j = k
          · subst hjk; exact h
          · exact hall j h1 h2 (by omega))
        have hstop := hid (fun (h : oneM ps[k].2 qs[k].2 = false) => sameL_at (x := ps.map (·.2)) (y := qs.map (·.2)) (k := k) (by simpa using hlt) (by simpa using hlq) (by simpa using h))
        have hone := one_c (w := wr.drew) (hw1.below (Below.refl _ _).drew) (hw2.below (Below.refl _ _).drew)
        rw [hs1] at x0
        rw [hs2] at y0
        simp only [hs1, hs2] at hone
        clear hw1 hw2 hs1 hs2 hall
        generalize ps[k].2 = m1 at x0 x1 x2 x3 x4 hstep hstop hone
        generalize qs[k].2 = m2 at y0 y1 y2 y3 y4 hstep hstop hone
        have hone := hid hone
        have hga' := Nat.lt_of_lt_of_le hga hb.size
        have hgb' := Nat.lt_of_lt_of_le hgb hb.size
        have hb := hid hb
        have hqi : (k : Int) < (qs.length : Int) := by omega
        go_wp2
        go_region_held3 (fun W => W.cell? ⟨ga, oa + k * 5, none⟩ = some (.slice as1 m1.words.length cs1) ∧ W.cell? ⟨ga, oa + k * 5 + 1, none⟩ = some (.int .i64 m1.lane) ∧ W.cell? ⟨ga, oa + k * 5 + 2, none⟩ = some (.int .i64 m1.stamp) ∧ W.cell? ⟨ga, oa + k * 5 + 3, none⟩ = some (.int .i64 m1.late) ∧ W.cell? ⟨ga, oa + k * 5 + 4, none⟩ = some (.int .i64 m1.seq) ∧ W.cell? ⟨gb, ob + k * 5, none⟩ = some (.slice as2 m2.words.length cs2) ∧ W.cell? ⟨gb, ob + k * 5 + 1, none⟩ = some (.int .i64 m2.lane) ∧ W.cell? ⟨gb, ob + k * 5 + 2, none⟩ = some (.int .i64 m2.stamp) ∧ W.cell? ⟨gb, ob + k * 5 + 3, none⟩ = some (.int .i64 m2.late) ∧ W.cell? ⟨gb, ob + k * 5 + 4, none⟩ = some (.int .i64 m2.seq))
          (first | go_keep | ((try dsimp only); (repeat' apply And.intro) <;> go_keep))
          (first | (go_at_call 24; (with_reducible refine (hone.out).mono ?_); rintro e w2 ⟨rfl, hb2⟩; obtain ⟨hc2, hf2, hz2⟩ := bcellLe (W := wr.drew) wr.heap.size (Nat.le_refl _) hb2; have u0 := (hc2 _ _ hga').trans x0; have u1 := (hc2 _ _ hga').trans x1; have u2 := (hc2 _ _ hga').trans x2; have u3 := (hc2 _ _ hga').trans x3; have u4 := (hc2 _ _ hga').trans x4; have t0 := (hc2 _ _ hgb').trans y0; have t1 := (hc2 _ _ hgb').trans y1; have t2 := (hc2 _ _ hgb').trans y2; have t3 := (hc2 _ _ hgb').trans y3; have t4 := (hc2 _ _ hgb').trans y4; have hb2 := hid (Below.next hb.out (Below.ofDrew hb2) hb.out.size)))
        cases ho : oneM m1 m2 with
        | true =>
          have hst := hid (hstep.out ho)
          clear ho hstep hstop
          go_wp2
          go_roundg (ps.length - (k + 1))
          case rel => exact ⟨k + 1, by omega, rfl, by go_num, hb2.out, hst.out⟩
          case measure => omega
        | false =>
          have hst := hid (hstop.out ho)
          clear ho hstep hstop
          go_wp2
          go_ret
          exact ⟨by rw [hst.out] <;> rfl, hb2.out⟩
      · obtain rfl : k = ps.length := by omega
        have hst := hid (sameL_all (x := ps.map (·.2)) (y := qs.map (·.2)) (by simpa using hlen'.out) (fun j h1 h2 => by
          have h1' : j < ps.length := by simpa using h1
          have h2' : j < qs.length := by simpa using h2
          simpa using hall j h1' h2' h1'))
        clear hall
        go_wp2
        go_ret
        exact ⟨by rw [hst.out] <;> rfl, hb⟩
  · have hst := hid (sameL_len (x := ps.map (·.2)) (y := qs.map (·.2)) (by simpa using hlen))
    have hne : ((ps.length : Int) != (qs.length : Int)) = true := by simp; omega
    have hne2 : ((ps.length : Int) == (qs.length : Int)) = false := by simp; omega
    clear hp hq
    go_enter Try.func22, Try.ntmps22
    go_wp2
    all_goals go_ret
    all_goals exact ⟨by rw [hst.out] <;> rfl, Below.refl _ _⟩
theorem same_eq {ok ok' okw okw' : Nat → Prop} {w : World} {v v' : Value} {ps qs : List (Value × Msg)} (hp : MsgsAt ok okw w v ps) (hq : MsgsAt ok' okw' w v' qs) (h : ps.map Prod.snd = qs.map Prod.snd) :
    Calls Try.prog 22 #[v, v'] w fun e w' => e = .returned (.bool true) ∧ Below w.heap.size w w' :=
  (same_c hp hq).mono fun e w' ⟨he, hb⟩ => ⟨by rw [he, (sameL_iff _ _).2 h], hb⟩
theorem one_eq {ok1 ok2 : Nat → Prop} {w : World} {a b : Option Addr} {c d : Nat} {m m' : Msg} (hp : IntsAt ok1 w (.slice a m.words.length c) m.words) (hq : IntsAt ok2 w (.slice b m'.words.length d) m'.words) (h : m = m') :
    Calls Try.prog 24 #[.agg #[.slice a m.words.length c, .int .i64 m.lane, .int .i64 m.stamp, .int .i64 m.late, .int .i64 m.seq], .agg #[.slice b m'.words.length d, .int .i64 m'.lane, .int .i64 m'.stamp, .int .i64 m'.late, .int .i64 m'.seq]] w fun e w' => e = .returned (.bool true) ∧ Below w.heap.size w w' :=
  (one_c (p := (.slice a m.words.length c, m)) (q := (.slice b m'.words.length d, m')) hp hq).mono fun e w' ⟨he, hb⟩ => ⟨by rw [he, (oneM_iff _ _).2 h], hb⟩
end Go.Proofs.Ytnlmkllhmldgiaa.R2
