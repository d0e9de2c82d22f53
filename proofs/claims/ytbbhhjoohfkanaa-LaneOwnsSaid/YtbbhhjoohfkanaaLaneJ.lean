/- DERIVED. The walks over the program's lane.Same: slices.Equal, the closure, slices.EqualFunc. No statement is proved here. -/
import Derived.Test.YtbbhhjoohfkanaaRefMsg
import Derived.Test.YtbbhhjoohfkanaaLaneI
namespace Go.Proofs.Ytbbhhjoohfkanaa.La
set_option linter.unusedVariables false
set_option linter.unusedSimpArgs false
open Go.RowKit Go.Proofs.Ytbbhhjoohfkanaa.K Go.Proofs.Ytbbhhjoohfkanaa.R2
/-- Step i as it reads later; its words stand where they stood. -/
theorem StepsAt.atC {w0 w : World} {ao : Option Addr} {n cap : Nat} {qs : List (Value × St)} (h : StepsAt w0 (.slice ao n cap) qs) (hb : Below w0.heap.size w0 w) {i : Nat} (hi : i < qs.length) : ∃ g o a c, ao = some ⟨g, o, none⟩ ∧ g < w.heap.size ∧ IntsAt (fun b => b < w0.heap.size) w (.slice a qs[i].2.m.words.length c) qs[i].2.m.words ∧
    w.cell? ⟨g, o + i * 7, none⟩ = some (.int .i64 qs[i].2.k) ∧ w.cell? ⟨g, o + i * 7 + 1, none⟩ = some (.int .i64 qs[i].2.n) ∧ w.cell? ⟨g, o + i * 7 + 2, none⟩ = some (.slice a qs[i].2.m.words.length c) ∧ w.cell? ⟨g, o + i * 7 + 3, none⟩ = some (.int .i64 qs[i].2.m.lane) ∧ w.cell? ⟨g, o + i * 7 + 4, none⟩ = some (.int .i64 qs[i].2.m.stamp) ∧ w.cell? ⟨g, o + i * 7 + 5, none⟩ = some (.int .i64 qs[i].2.m.late) ∧ w.cell? ⟨g, o + i * 7 + 6, none⟩ = some (.int .i64 qs[i].2.m.seq) := by
  obtain ⟨g, o, a, c, e, hg, hw, d0, d1, d2, d3, d4, d5, d6⟩ := h.at_ hi
  exact ⟨g, o, a, c, e, Nat.lt_of_lt_of_le hg hb.size, hw.below hb, (hb.cell (p := ⟨g, _, none⟩) hg).trans d0, (hb.cell (p := ⟨g, _, none⟩) hg).trans d1, (hb.cell (p := ⟨g, _, none⟩) hg).trans d2, (hb.cell (p := ⟨g, _, none⟩) hg).trans d3, (hb.cell (p := ⟨g, _, none⟩) hg).trans d4, (hb.cell (p := ⟨g, _, none⟩) hg).trans d5, (hb.cell (p := ⟨g, _, none⟩) hg).trans d6⟩
/-- Step i as it reads later; its words stand where they stood. -/
theorem StepsAt.atD {w0 w : World} {ao : Option Addr} {n cap : Nat} {qs : List (Value × St)} (h : StepsAt w0 (.slice ao n cap) qs) (hb : Below w0.heap.size w0 w) {i : Nat} (hi : i < qs.length) : ∃ g o a c, ao = some ⟨g, o, none⟩ ∧ g < w.heap.size ∧ IntsAt (fun b => b < w0.heap.size) w0 (.slice a qs[i].2.m.words.length c) qs[i].2.m.words ∧
    w.cell? ⟨g, o + i * 7, none⟩ = some (.int .i64 qs[i].2.k) ∧ w.cell? ⟨g, o + i * 7 + 1, none⟩ = some (.int .i64 qs[i].2.n) ∧ w.cell? ⟨g, o + i * 7 + 2, none⟩ = some (.slice a qs[i].2.m.words.length c) ∧ w.cell? ⟨g, o + i * 7 + 3, none⟩ = some (.int .i64 qs[i].2.m.lane) ∧ w.cell? ⟨g, o + i * 7 + 4, none⟩ = some (.int .i64 qs[i].2.m.stamp) ∧ w.cell? ⟨g, o + i * 7 + 5, none⟩ = some (.int .i64 qs[i].2.m.late) ∧ w.cell? ⟨g, o + i * 7 + 6, none⟩ = some (.int .i64 qs[i].2.m.seq) := by
  obtain ⟨g, o, a, c, e, hg, hw, d0, d1, d2, d3, d4, d5, d6⟩ := h.at_ hi
  exact ⟨g, o, a, c, e, Nat.lt_of_lt_of_le hg hb.size, hw, (hb.cell (p := ⟨g, _, none⟩) hg).trans d0, (hb.cell (p := ⟨g, _, none⟩) hg).trans d1, (hb.cell (p := ⟨g, _, none⟩) hg).trans d2, (hb.cell (p := ⟨g, _, none⟩) hg).trans d3, (hb.cell (p := ⟨g, _, none⟩) hg).trans d4, (hb.cell (p := ⟨g, _, none⟩) hg).trans d5, (hb.cell (p := ⟨g, _, none⟩) hg).trans d6⟩
set_option maxHeartbeats 1000000 in
theorem equal_c {ok1 ok2 : Nat → Prop} {w : World} {v1 v2 : Value} {xs ys : List Int} (h1 : IntsAt ok1 w v1 xs) (h2 : IntsAt ok2 w v2 ys) :
    Calls Try.prog 52 #[v1, v2] w fun e w' => e = .returned (.bool (decide (xs = ys))) ∧ Drawn w w' := by
  obtain ⟨a1, c1, rfl⟩ := h1.shape
  obtain ⟨a2, c2, rfl⟩ := h2.shape
  obtain ⟨_, hl1, hm1, g1⟩ := h1.get
  obtain ⟨_, hl2, hm2, g2⟩ := h2.get
  by_cases hlen : xs.length = ys.length
  · have hd' : ((xs.length : Int) != (ys.length : Int)) = false := by simp [hlen]
    have hlen' := hid hlen
    clear hlen
    go_enter Try.func52, Try.ntmps52
    go_wp2
    go_loopg [13, 5] xs.length (fun g i i5 wr => ∃ k : Nat, k ≤ xs.length ∧ g = xs.length - k ∧ i = .int .i64 k ∧ Hid (xs.take k = ys.take k) ∧ Hid (Drawn w wr))
    case atStart => exact ⟨0, Nat.zero_le _, rfl, rfl, by simp [Hid], Drawn.refl _⟩
    case round =>
      obtain ⟨k, hk, hgk, rfl, ht, hdr⟩ := hrel
      by_cases hlt : k < xs.length
      · obtain ⟨gx, ox, rfl, _, hxs, hcx⟩ := g1 k hlt
        obtain ⟨gy, oy, rfl, _, hys, hcy⟩ := g2 k (by have := hlen'.out; omega)
        have cx : wr.cell? ⟨gx, ox + k, none⟩ = some (.int .i64 xs[k]) := (World.cell?_of_block (by rw [hdr.out.heap])).trans hcx
        have cy : wr.cell? ⟨gy, oy + k, none⟩ = some (.int .i64 ys[k]) := (World.cell?_of_block (by rw [hdr.out.heap])).trans hcy
        have hlt2 : k < ys.length := by have := hlen'.out; omega
        have i0 : (0 : Int) ≤ (k : Int) := by omega
        have i1 : (k : Int) < (xs.length : Int) := by omega
        have i2 : (k : Int) < (ys.length : Int) := by omega
        clear hcx hcy g1 g2
        by_cases he : xs[k] = ys[k]
        · have he1 := hid he
          have hd1 : (xs[k] != ys[k]) = false := by simp [he]
          clear he
          go_wp2
          go_quiet (fail)
          go_wp2
          go_roundg (xs.length - (k + 1))
          case rel =>
            refine ⟨k + 1, by omega, rfl, by go_num, take_eq_step hlt hlt2 ht.out he1.out, ?_⟩
            obtain ⟨n, hn⟩ := hdr.out
            exact ⟨n + nq, by rw [hn, World.drewN_drewN]⟩
          case measure => omega
        · have hne : xs ≠ ys := fun e => he (by subst e; rfl)
          have hne' := hid (show decide (xs = ys) = false by simp [hne])
          have hd1 : (xs[k] != ys[k]) = true := by simp [he]
          clear he hne
          go_wp2
          go_quiet (fail)
          go_wp2
          go_ret
          obtain ⟨n, hn⟩ := hdr.out
          exact ⟨rbool hne'.out.symm, n + nq, by rw [hn, World.drewN_drewN]⟩
      · obtain rfl : k = xs.length := by omega
        have hxy : xs = ys := by
          have h := ht.out
          rw [List.take_of_length_le (by omega), List.take_of_length_le (by have := hlen'.out; omega)] at h
          exact h
        have hxy' := hid hxy
        clear hxy
        go_wp2
        go_ret
        exact ⟨rbool (decide_eq_true hxy'.out).symm, hdr.out⟩
  · have hne : xs ≠ ys := fun e => hlen (by rw [e])
    have hne' := hid (show decide (xs = ys) = false by simp [hne])
    have hd' : ((xs.length : Int) != (ys.length : Int)) = true := by rw [bne_iff_ne]; omega
    clear hlen hne
    go_enter Try.func52, Try.ntmps52
    go_wp2
    all_goals go_ret
    all_goals exact ⟨rbool hne'.out.symm, Drawn.refl _⟩
set_option maxHeartbeats 1000000 in
theorem same1_c {ok1 ok2 : Nat → Prop} {w : World} {a1 a2 : Option Addr} {c1 c2 : Nat} {m m' : Msg} (hp : IntsAt ok1 w (.slice a1 m.words.length c1) m.words) (hq : IntsAt ok2 w (.slice a2 m'.words.length c2) m'.words) :
    Calls Try.prog 51 #[.agg #[.slice a1 m.words.length c1, .int .i64 m.lane, .int .i64 m.stamp, .int .i64 m.late, .int .i64 m.seq], .agg #[.slice a2 m'.words.length c2, .int .i64 m'.lane, .int .i64 m'.stamp, .int .i64 m'.late, .int .i64 m'.seq]] w fun e w' => e = .returned (.bool (oneM m m')) ∧ Below w.heap.size w w' := by
  have hb2 := ((Below.refl w.heap.size w).alloc (Nat.le_refl _) (.cells #[.slice a1 m.words.length c1, .int .i64 m.lane, .int .i64 m.stamp, .int .i64 m.late, .int .i64 m.seq] 30)).alloc (by simp) (.cells #[.slice a2 m'.words.length c2, .int .i64 m'.lane, .int .i64 m'.stamp, .int .i64 m'.late, .int .i64 m'.seq] 30)
  have hp2 := hid (hp.below hb2)
  have hq2 := hid (hq.below hb2)
  have hb2 := hid hb2
  clear hp hq
  unfold oneM
  generalize hdw : decide (m.words = m'.words) = dw
  have hs := hid (fun (w : World) h1 h2 => (equal_c (w := w) (ok1 := ok1) (ok2 := ok2) (v1 := .slice a1 m.words.length c1) (v2 := .slice a2 m'.words.length c2) (xs := m.words) (ys := m'.words) h1 h2))
  cases dw
  · go_enter Try.func51, Try.ntmps51
    go_wp2_with (first | (go_at_call 52; (with_reducible refine (hs.out _ hp2.out hq2.out).mono ?_); rw [hdw]; rintro e w3 ⟨rfl, k, rfl⟩))
    all_goals go_ret
    all_goals exact ⟨rbool (by simp), drewnB (((Below.refl _ _).alloc (Nat.le_refl _) _).alloc (by simp) _) _⟩
  · go_enter Try.func51, Try.ntmps51
    go_wp2_with (first | (go_at_call 52; (with_reducible refine (hs.out _ hp2.out hq2.out).mono ?_); rw [hdw]; rintro e w3 ⟨rfl, k, rfl⟩))
    all_goals go_ret
    all_goals exact ⟨rbool (by simp_all), drewnB (((Below.refl _ _).alloc (Nat.le_refl _) _).alloc (by simp) _) _⟩
set_option maxHeartbeats 2000000 in
theorem equalFunc_c {ok ok' okw okw' : Nat → Prop} {w : World} {v v' : Value} {ps qs : List (Value × Msg)} (hp : MsgsAt ok okw w v ps) (hq : MsgsAt ok' okw' w v' qs) :
    Calls Try.prog 50 #[v, v', .func (.func 51) #[] #[]] w (SamePost w (ps.map (·.2)) (qs.map (·.2))) := by
  obtain ⟨a1, c1, rfl⟩ := hp.shape
  obtain ⟨a2, c2, rfl⟩ := hq.shape
  obtain ⟨-, hl1, hm1, -⟩ := hp.get
  obtain ⟨-, hl2, hm2, -⟩ := hq.get
  by_cases hlen : ps.length = qs.length
  · have hlen' := hid hlen
    have hd' : ((ps.length : Int) != (qs.length : Int)) = false := by simp [hlen]
    replace hp := hid hp
    replace hq := hid hq
    clear hlen
    go_enter Try.func50, Try.ntmps50
    go_wp2
    go_loopg [17, 7, 8, 9] ps.length (fun g i i7 i8 i9 wr => ∃ k : Nat, k ≤ ps.length ∧ g = ps.length - k ∧ i = .int .i64 k ∧ Below w.heap.size w wr ∧ ∀ j (h1 : j < ps.length) (h2 : j < qs.length), j < k → oneM ps[j].2 qs[j].2 = true)
    case atStart => exact ⟨0, Nat.zero_le _, rfl, rfl, Below.refl _ _, fun j _ _ h => by omega⟩
    case round =>
      obtain ⟨k, hk, hgk, rfl, hb, hall⟩ := hrel
      by_cases hlt : k < ps.length
      · have hlq : k < qs.length := by have := hlen'.out; omega
        obtain ⟨ga, oa, as1, cs1, rfl, -, -, hA, hw1⟩ := (hp.out.below hb).at5 hlt
        obtain ⟨gb, ob, as2, cs2, rfl, -, -, hB, hw2⟩ := (hq.out.below hb).at5 hlq
        have hstep := hid (fun (h : oneM ps[k].2 qs[k].2 = true) => show ∀ j (h1 : j < ps.length) (h2 : j < qs.length), j < k + 1 → oneM ps[j].2 qs[j].2 = true from fun j h1 h2 hj => by
          by_cases hjk : j = k
          · subst hjk; exact h
          · exact hall j h1 h2 (by omega))
        have hstop := hid (fun (h : oneM ps[k].2 qs[k].2 = false) => sameL_at (x := ps.map (·.2)) (y := qs.map (·.2)) (k := k) (by simpa using hlt) (by simpa using hlq) (by simpa using h))
        clear hall
        generalize ps[k].2 = m1 at hA hw1 hstep hstop
        generalize qs[k].2 = m2 at hB hw2 hstep hstop
        have hbA := (Below.refl wr.heap.size wr).alloc (Nat.le_refl _) (.cells #[.slice as1 m1.words.length cs1, .int .i64 m1.lane, .int .i64 m1.stamp, .int .i64 m1.late, .int .i64 m1.seq] 30)
        have hbB := hbA.alloc (by simp) (.cells #[.slice as2 m2.words.length cs2, .int .i64 m2.lane, .int .i64 m2.stamp, .int .i64 m2.late, .int .i64 m2.seq] 30)
        have hone := same1_c (hw1.below hbB) (hw2.below hbB)
        have hb0 := hid (Below.next hb hbB hb.size)
        obtain ⟨x0, x1, x2, x3, x4, xl⟩ := hA
        obtain ⟨y0, y1, y2, y3, y4, yl⟩ := hB
        have hkq : (k : Int) < (qs.length : Int) := by omega
        have hxn : ga ≠ wr.heap.size := by omega
        have hyn : gb ≠ wr.heap.size := by omega
        clear hbA hbB hb hw1 hw2
        cases ho : oneM m1 m2 with
        | true =>
          have hst := hid (hstep.out ho)
          rw [ho] at hone
          replace hone := hid hone
          clear ho hstep hstop
          go_wp2_with (first | (go_at_call 51; (with_reducible refine (hone.out).mono ?_); rintro e w2 ⟨rfl, hb2⟩; replace hb2 := hid (Below.next hb0.out hb2 hb0.out.size)))
          go_roundg (ps.length - (k + 1))
          case rel => exact ⟨k + 1, by omega, rfl, by go_num, hb2.out, hst.out⟩
          case measure => omega
        | false =>
          have hst := hid (hstop.out ho)
          rw [ho] at hone
          replace hone := hid hone
          clear ho hstep hstop
          go_wp2_with (first | (go_at_call 51; (with_reducible refine (hone.out).mono ?_); rintro e w2 ⟨rfl, hb2⟩; replace hb2 := hid (Below.next hb0.out hb2 hb0.out.size)))
          go_ret
          exact ⟨by rw [hst.out] <;> rfl, hb2.out⟩
      · obtain rfl : k = ps.length := by omega
        have hst := hid (sameL_all (x := ps.map (·.2)) (y := qs.map (·.2)) (by simpa using hlen'.out) (fun j h1 h2 => by
          have h1' : j < ps.length := by simpa using h1
          have h2' : j < qs.length := by simpa using h2
          simpa using hall j h1' h2' h1'))
        clear hall
        replace hb := hid hb
        go_wp2
        go_ret
        exact ⟨by rw [hst.out] <;> rfl, hb.out⟩
  · have hst := hid (sameL_len (x := ps.map (·.2)) (y := qs.map (·.2)) (by simpa using hlen))
    have hne : ((ps.length : Int) != (qs.length : Int)) = true := by simp; omega
    clear hp hq
    go_enter Try.func50, Try.ntmps50
    go_wp2
    all_goals go_ret
    all_goals exact ⟨by rw [hst.out] <;> rfl, Below.refl _ _⟩
theorem same_c {ok ok' okw okw' : Nat → Prop} {w : World} {v v' : Value} {ps qs : List (Value × Msg)} (hp : MsgsAt ok okw w v ps) (hq : MsgsAt ok' okw' w v' qs) :
    Calls Try.prog 35 #[v, v'] w (SamePost w (ps.map (·.2)) (qs.map (·.2))) := by
  have h := hid (equalFunc_c hp hq)
  obtain ⟨a1, c1, rfl⟩ := hp.shape
  obtain ⟨a2, c2, rfl⟩ := hq.shape
  clear hp hq
  go_enter Try.func35, Try.ntmps35
  go_wp2_with (first | (go_at_call 50; (with_reducible refine (h.out).mono ?_); rintro e w2 ⟨rfl, hb2⟩))
  go_ret
  exact ⟨rfl, hb2⟩
end Go.Proofs.Ytbbhhjoohfkanaa.La
