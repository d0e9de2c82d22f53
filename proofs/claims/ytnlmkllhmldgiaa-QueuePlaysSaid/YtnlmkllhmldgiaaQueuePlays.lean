/- DERIVED. The walk over the statement QueuePlays: a port, in whatever row. -/
import Derived.Test.YtnlmkllhmldgiaaRefQW
import Derived.Test.YtnlmkllhmldgiaaQueueI
namespace Go.Proofs.Ytnlmkllhmldgiaa.Rq
set_option linter.unusedVariables false
set_option linter.unusedSimpArgs false
open Go.RowKit Go.Maps Go.Proofs.Ytnlmkllhmldgiaa.K Go.Proofs.Ytnlmkllhmldgiaa.Lb Go.Proofs.Ytnlmkllhmldgiaa.Wh Go.Proofs.Ytnlmkllhmldgiaa.Qu Go.Proofs.Ytnlmkllhmldgiaa.Gt
theorem putP_of (p : Prt) (m : Msg) : (putP p m).1.hold = p.hold ∧ (putP p m).1.s = p.s ∧ (putP p m).1.row.length ≤ p.row.length := Qu.putP_of p m
set_option maxHeartbeats 4000000 in
set_option maxRecDepth 100000 in
theorem qplays_c {w : World} {v1 : Value} (hold : Int) {qs : List (Value × St)} (hs : StepsAt w v1 qs) (hqi : ∀ q ∈ qs, isInt q.2.p) : Calls Try.prog 6 #[.int .i64 hold, v1] w (LivesPost w) := by
  have hs0 := hs
  obtain ⟨a1, c1, rfl⟩ := hs.shape
  -- WALK qplays plays
  refine E.enter (l := [.int .i64 hold, .slice a1 qs.length c1]) Try.func6 rfl 211 rfl rfl ?_
  intro a hF
  simp only [E.args] at hF
  have hC := Chg.refl (fun _ => False) w
  refine wp_seq_k fun K1 hK1 => ?_
  refine wp_region_lit ?_  -- R0
  refine E.val (d := 4) (v := .bool false) (w' := w) rfl rfl rfl hF (by exact E.xAsC rfl) ?_
  clear hF a; intro a hF
  refine wpList_nil ?_
  refine E.then_norm (hK1 _ _ ?_)
  refine wp_seq_k fun K2 hK2 => ?_
  refine wp_seq_k fun K3 hK3 => ?_
  refine wp_region_lit ?_  -- R1
  refine E.call (f := 8) (xs := #[]) rfl rfl rfl hF (by simp [go_sem]) (lives_c _) ?_
  rintro e w2 ⟨rfl, hb1⟩
  refine ⟨_, rfl, ?_⟩
  clear hF a; intro a hF
  replace hC := hC.below hb1
  have z3 : w.heap.size ≤ w2.heap.size := hb1.size
  clear hb1
  refine E.val (d := 29) (v := .bool false) (w' := w2) rfl rfl rfl hF (by have e28 : a.tmps[28]?.getD undef = .bool true := hF.at 28 rfl; simp [go_sem, e28]) ?_
  clear hF a; intro a hF
  refine wpList_nil ?_
  refine E.then_norm (hK3 _ _ ?_)
  refine E.condF rfl (hF.at 29 rfl) ?_
  refine wp_skip ?_
  refine E.then_norm (hK2 _ _ ?_)
  refine wp_seq_k fun K4 hK4 => ?_
  refine wp_region_lit ?_  -- R3
  refine E.val (d := 30) (v := .int .i64 hold) (w' := w2) rfl rfl rfl hF (by exact E.xMv rfl (hF.at 0 rfl)) ?_
  clear hF a; intro a hF
  refine E.call (f := 9) (xs := #[.int .i64 hold]) rfl rfl rfl hF (by have e30 : a.tmps[30]?.getD undef = .int .i64 hold := hF.at 30 rfl; simp [go_sem, e30]) (new_x _ hold) ?_
  rintro e w5 ⟨pb, M0, rfl, hP, hM0, hb4⟩
  refine ⟨_, rfl, ?_⟩
  clear hF a; intro a hF
  replace hC := hC.below hb4
  have z6 : w2.heap.size ≤ w5.heap.size := hb4.size
  clear hb4
  have hge : ∀ x, M0 x → w.heap.size ≤ x := fun x h => by have := hM0 x h; omega
  refine E.val (d := 32) (v := .int .i64 hold) (w' := w5) rfl rfl rfl hF (by exact E.xMv rfl (hF.at 0 rfl)) ?_
  clear hF a; intro a hF
  refine E.call (f := 25) (xs := #[.int .i64 hold]) rfl rfl rfl hF (by have e32 : a.tmps[32]?.getD undef = .int .i64 hold := hF.at 32 rfl; simp [go_sem, e32]) (qnew_c _ hold) ?_
  rintro e w8 ⟨rfl, hb7⟩
  refine ⟨_, rfl, ?_⟩
  clear hF a; intro a hF
  replace hP := hP.below hb7
  replace hC := hC.below hb7
  have z9 : w5.heap.size ≤ w8.heap.size := hb7.size
  clear hb7
  refine E.val (d := 6) (v := .pointer (some ⟨w8.heap.size, 0, none⟩)) (w' := w8.alloc (.cells #[.int .i64 0, .slice none 0 0, .slice none 0 0] 56)) rfl rfl rfl hF (by simp [go_sem]) ?_
  clear hF a; intro a hF
  have hb10 := (Below.refl w8.heap.size w8).alloc (Nat.le_refl _) (.cells #[.int .i64 0, .slice none 0 0, .slice none 0 0] 56)
  have p6 : pts (w8.alloc (.cells #[.int .i64 0, .slice none 0 0, .slice none 0 0] 56)) (w8.heap.size) [.int .i64 0, .slice none 0 0, .slice none 0 0] 56 := pts.newA w8 #[.int .i64 0, .slice none 0 0, .slice none 0 0] 56
  have z11 : w8.heap.size < (w8.alloc (.cells #[.int .i64 0, .slice none 0 0, .slice none 0 0] 56)).heap.size := by simp
  have nb13 : ¬ M0 (w8.heap.size) ∧ ¬ (fun _ => False) (w8.heap.size) := ⟨fun hm => by have := hP.lt (w8.heap.size) (.inl hm); omega, fun hm => by have := hP.lt (w8.heap.size) (.inr hm); omega⟩
  replace hP := hP.below hb10
  replace hC := hC.below hb10
  clear hb10; generalize w8.alloc (.cells #[.int .i64 0, .slice none 0 0, .slice none 0 0] 56) = w12 at p6 z11 hC hP ⊢
  refine E.val (d := 5) (v := .pointer (some ⟨pb, 0, none⟩)) (w' := w12) rfl rfl rfl hF (by exact E.xAs rfl (hF.at 31 rfl)) ?_
  clear hF a; intro a hF
  refine E.eff (w' := setN w12 (w8.heap.size) 0 [.int .i64 ((newP hold).hold), .slice none 0 0, .slice none 0 0]) rfl rfl (by exact xStore rfl (hF.at 6 rfl) (hF.at 33 rfl) p6 rfl (by kernel_rfl) rfl) ?_
  have hc14 : Chg (fun x => x = w8.heap.size) w12 (setN w12 (w8.heap.size) 0 [.int .i64 ((newP hold).hold), .slice none 0 0, .slice none 0 0]) := setN_own _ _ _ _
  have z16 := hc14.size
  replace hP := hP.chg hc14 (fun y hy => by have hy : y = w8.heap.size := hy; subst hy; exact nb13)
  replace p6 : pts (setN w12 (w8.heap.size) 0 [.int .i64 ((newP hold).hold), .slice none 0 0, .slice none 0 0]) (w8.heap.size) [.int .i64 ((newP hold).hold), .slice none 0 0, .slice none 0 0] 56 := setN_pts0 p6 _ rfl
  replace hC := hC.trans hc14 (fun x hx => .inr (by omega))
  clear hc14; generalize setN w12 (w8.heap.size) 0 [.int .i64 ((newP hold).hold), .slice none 0 0, .slice none 0 0] = w15 at hC z16 hP p6 ⊢
  refine wpList_nil ?_
  have hR : RefP (fun x => (w15.heap.size ≤ x) ∧ (¬ M0 x)) (fun x => x < w.heap.size) w15 none 0 0 none 0 0 (newP hold) := RefP.new _ _
  have hnew : (newP hold).s ≤ 0 ∧ (newP hold).row.length ≤ 0 := ⟨Int.le_refl _, Nat.le_refl _⟩
  replace hF := hF.sub (m' := [(5, .pointer (some ⟨pb, 0, none⟩)), (6, .pointer (some ⟨w8.heap.size, 0, none⟩)), (1, .slice a1 qs.length c1)]) ⟨rfl, rfl, rfl, trivial⟩
  refine E.then_norm (hK4 _ _ ?_)
  refine wp_seq_k fun K5 hK5 => ?_
  refine wp_region_lit ?_  -- R4
  refine E.val (d := 34) (v := .slice a1 qs.length c1) (w' := w15) rfl rfl rfl hF (by exact E.xMv rfl (hF.at 1 rfl)) ?_
  clear hF a; intro a hF
  refine E.call (f := 14) (xs := #[.slice a1 qs.length c1]) rfl rfl rfl hF (by have e34 : a.tmps[34]?.getD undef = .slice a1 qs.length c1 := hF.at 34 rfl; simp [go_sem, e34]) (early_c _ hs0) ?_
  rintro e w17 ⟨v', rfl, hys, rfl⟩
  have hyl : (qs.take 80).length ≤ 80 := by simp; omega
  have hyi : ∀ q ∈ qs.take 80, isInt q.2.p := fun q hq => hqi q (List.mem_of_mem_take hq)
  generalize qs.take 80 = ys at hys hyl hyi
  obtain ⟨a3, c3, rfl⟩ := hys.shape
  refine ⟨_, rfl, ?_⟩
  clear hF a; intro a hF
  refine E.val (d := 1) (v := .slice a3 ys.length c3) (w' := w15) rfl rfl rfl hF (by exact E.xAs rfl (hF.at 35 rfl)) ?_
  clear hF a; intro a hF
  refine wpList_nil ?_
  refine E.then_norm (hK5 _ _ ?_)
  refine wp_seq_k fun K6 hK6 => ?_
  refine wp_seq_k fun K7 hK7 => ?_
  refine wp_region_lit ?_  -- R5
  refine E.val (d := 7) (v := .int .i64 0) (w' := w15) rfl rfl rfl hF (by exact E.xAsC rfl) ?_
  clear hF a; intro a hF
  refine wpList_nil ?_
  refine E.then_norm (hK7 _ _ ?_)
  refine wp_block ?_
  refine wp_loop_ghost (fun g a wr => ∃ (i : Nat) (al : Option Addr) (nl : Nat) (cl : Nat) (aw : Option Addr) (nw : Nat) (cw : Nat) (p : Prt) (M_hP : Nat → Prop) (W_hP : Nat → Prop), (g = ys.length - i) ∧ (E.Fr 211 [(7, .int .i64 (i : Int)), (1, .slice a3 ys.length c3), (5, .pointer (some ⟨pb, 0, none⟩)), (6, .pointer (some ⟨w8.heap.size, 0, none⟩))] a) ∧ (Chg (fun _ => False) w wr) ∧ (w15.heap.size ≤ wr.heap.size) ∧ (PortF wr M_hP W_hP pb p) ∧ (pts wr (w8.heap.size) [.int .i64 p.hold, .slice al nl cl, .slice aw nw cw] 56) ∧ (RefP (fun x => (w15.heap.size ≤ x) ∧ (¬ M_hP x)) (fun x => x < w.heap.size) wr al nl cl aw nw cw p) ∧ (i ≤ ys.length) ∧ (p.s ≤ (i : Int)) ∧ (p.row.length ≤ i) ∧ (∀ x, M_hP x → w.heap.size ≤ x) ∧ (¬ M_hP (w8.heap.size) ∧ ¬ W_hP (w8.heap.size))) _ ⟨0, none, 0, 0, none, 0, 0, (newP hold), M0, (fun _ => False), rfl, hF.sub (by exact ⟨rfl, rfl, rfl, rfl, trivial⟩), hC, Nat.le_refl _, hP, p6, hR, Nat.zero_le _, hnew.1, hnew.2, hge, nb13⟩ ?_
  clear hF a hC hP p6 hR
  rintro g a wr ⟨i, al, nl, cl, aw, nw, cw, p, M_hP, W_hP, rfl, hF, hC, z18, hP, p6, hR, hi, hps, hpr, hge, nb13⟩
  refine wp_seq_k fun K8 hK8 => ?_
  refine wp_seq_k fun K9 hK9 => ?_
  refine wp_region_lit ?_  -- R6
  refine E.val (d := 36) (v := .int .i64 (i : Int)) (w' := wr) rfl rfl rfl hF (by exact E.xMv rfl (hF.at 7 rfl)) ?_
  clear hF a; intro a hF
  refine E.val (d := 37) (v := .slice a3 ys.length c3) (w' := wr) rfl rfl rfl hF (by exact E.xMv rfl (hF.at 1 rfl)) ?_
  clear hF a; intro a hF
  refine E.val (d := 38) (v := .int .i64 (ys.length : Int)) (w' := wr) rfl rfl rfl hF (by have e37 : a.tmps[37]?.getD undef = .slice a3 ys.length c3 := hF.at 37 rfl; simp [go_sem, e37]) ?_
  clear hF a; intro a hF
  refine E.val (d := 39) (v := .bool (decide ((i : Int) < (ys.length : Int)))) (w' := wr) rfl rfl rfl hF (by have e36 : a.tmps[36]?.getD undef = .int .i64 (i : Int) := hF.at 36 rfl; have e38 : a.tmps[38]?.getD undef = .int .i64 (ys.length : Int) := hF.at 38 rfl; simp [go_sem, e36, e38]) ?_
  clear hF a; intro a hF
  refine wpList_nil ?_
  refine E.then_norm (hK9 _ _ ?_)
  rcases E.bsplit (decide ((i : Int) < (ys.length : Int))) with hc19 | hc19
  ·
    have hlt : i < ys.length := by have := of_decide_eq_true hc19; omega
    have hi80 : i < 80 := by omega
    obtain ⟨-, hcl, hcm, hget⟩ := hys.cells
    obtain ⟨g, o, ea, hg, -, hwi, d0, d1, d2, d3, d4, d5, d6, d7, d8⟩ := hget i hlt
    obtain ⟨asw, csw, hsw⟩ := hwi.shape; rw [hsw] at hwi d4
    have hxi := hyi _ (List.getElem_mem hlt)
    clear hget hsw; generalize ys[i].2 = q at d0 d1 d2 d3 d4 d5 d6 d7 d8 hwi hxi
    have h8l : (cut8 q.m).words.length ≤ 17592186044416 := by unfold cut8; simp; omega
    have hw8 : IntsAt (fun x => x < w.heap.size) w (.slice asw (cut8 q.m).words.length csw) (cut8 q.m).words := (IntsAt.cut hwi 8).mono (fun _ _ hl => hl)
    refine E.condT rfl (((hF.at 39 rfl).trans (congrArg Value.bool hc19))) ?_
    refine wp_skip ?_
    refine E.then_norm (hK8 _ _ ?_)
    refine wp_seq_k fun K10 hK10 => ?_
    refine wp_block ?_
    refine wp_seq_k fun K11 hK11 => ?_
    refine wp_region_lit ?_  -- R8
    refine E.val (d := 42) (v := .slice a3 ys.length c3) (w' := wr) rfl rfl rfl hF (by exact E.xMv rfl (hF.at 1 rfl)) ?_
    clear hF a; intro a hF
    refine E.val (d := 43) (v := .int .i64 (i : Int)) (w' := wr) rfl rfl rfl hF (by exact E.xMv rfl (hF.at 7 rfl)) ?_
    clear hF a; intro a hF
    refine E.val (d := 44) (v := .pointer (some ⟨g, o + i * 9, none⟩)) (w' := wr) rfl rfl rfl hF (by exact E.xIdx (x := .tmp 43) (i := i) (ofs := o) (k := 9) rfl (by have e := hF.at 42 rfl; rw [ea] at e; exact e) ((E.ev_of (hF.at 43 rfl))) Try.underlying38 (by kernel_rfl) (by omega)) ?_
    clear hF a; intro a hF
    refine E.val (d := 45) (v := .agg #[.int .i64 q.k, .int .i64 q.p, .int .i64 q.u, .int .i64 q.n, .slice asw q.m.words.length csw, .int .i64 q.m.lane, .int .i64 q.m.stamp, .int .i64 q.m.late, .int .i64 q.m.seq]) (w' := wr) rfl rfl rfl hF (by have e44 : a.tmps[44]?.getD undef = .pointer (some ⟨g, o + i * 9, none⟩) := hF.at 44 rfl; have c0 : wr.cell? ⟨g, o + i * 9, none⟩ = some (.int .i64 q.k) := ((E.below_of (hC)).cell (p := ⟨g, o + i * 9, none⟩) hg).trans d0; have c1 : wr.cell? ⟨g, o + i * 9 + 1, none⟩ = some (.int .i64 q.p) := ((E.below_of (hC)).cell (p := ⟨g, o + i * 9 + 1, none⟩) hg).trans d1; have c2 : wr.cell? ⟨g, o + i * 9 + 2, none⟩ = some (.int .i64 q.u) := ((E.below_of (hC)).cell (p := ⟨g, o + i * 9 + 2, none⟩) hg).trans d2; have c3 : wr.cell? ⟨g, o + i * 9 + 3, none⟩ = some (.int .i64 q.n) := ((E.below_of (hC)).cell (p := ⟨g, o + i * 9 + 3, none⟩) hg).trans d3; have c4 : wr.cell? ⟨g, o + i * 9 + 4, none⟩ = some (.slice asw q.m.words.length csw) := ((E.below_of (hC)).cell (p := ⟨g, o + i * 9 + 4, none⟩) hg).trans d4; have c5 : wr.cell? ⟨g, o + i * 9 + 5, none⟩ = some (.int .i64 q.m.lane) := ((E.below_of (hC)).cell (p := ⟨g, o + i * 9 + 5, none⟩) hg).trans d5; have c6 : wr.cell? ⟨g, o + i * 9 + 6, none⟩ = some (.int .i64 q.m.stamp) := ((E.below_of (hC)).cell (p := ⟨g, o + i * 9 + 6, none⟩) hg).trans d6; have c7 : wr.cell? ⟨g, o + i * 9 + 7, none⟩ = some (.int .i64 q.m.late) := ((E.below_of (hC)).cell (p := ⟨g, o + i * 9 + 7, none⟩) hg).trans d7; have c8 : wr.cell? ⟨g, o + i * 9 + 8, none⟩ = some (.int .i64 q.m.seq) := ((E.below_of (hC)).cell (p := ⟨g, o + i * 9 + 8, none⟩) hg).trans d8; simp [go_sem, e44, c0, c1, c2, c3, c4, c5, c6, c7, c8]) ?_
    clear hF a; intro a hF
    refine E.val (d := 8) (v := .pointer (some ⟨wr.heap.size, 0, none⟩)) (w' := wr.alloc (.cells #[.int .i64 0, .int .i64 0, .int .i64 0, .int .i64 0, .slice none 0 0, .int .i64 0, .int .i64 0, .int .i64 0, .int .i64 0] 41)) rfl rfl rfl hF (by simp [go_sem]) ?_
    clear hF a; intro a hF
    have hb20 := (Below.refl wr.heap.size wr).alloc (Nat.le_refl _) (.cells #[.int .i64 0, .int .i64 0, .int .i64 0, .int .i64 0, .slice none 0 0, .int .i64 0, .int .i64 0, .int .i64 0, .int .i64 0] 41)
    have p8 : pts (wr.alloc (.cells #[.int .i64 0, .int .i64 0, .int .i64 0, .int .i64 0, .slice none 0 0, .int .i64 0, .int .i64 0, .int .i64 0, .int .i64 0] 41)) (wr.heap.size) [.int .i64 0, .int .i64 0, .int .i64 0, .int .i64 0, .slice none 0 0, .int .i64 0, .int .i64 0, .int .i64 0, .int .i64 0] 41 := pts.newA wr #[.int .i64 0, .int .i64 0, .int .i64 0, .int .i64 0, .slice none 0 0, .int .i64 0, .int .i64 0, .int .i64 0, .int .i64 0] 41
    have z21 : wr.heap.size < (wr.alloc (.cells #[.int .i64 0, .int .i64 0, .int .i64 0, .int .i64 0, .slice none 0 0, .int .i64 0, .int .i64 0, .int .i64 0, .int .i64 0] 41)).heap.size := by simp
    have nb23 : ¬ M_hP (wr.heap.size) ∧ ¬ W_hP (wr.heap.size) := ⟨fun hm => by have := hP.lt (wr.heap.size) (.inl hm); omega, fun hm => by have := hP.lt (wr.heap.size) (.inr hm); omega⟩
    replace hR := hR.mono (okr' := (fun x => (w15.heap.size ≤ x) ∧ (¬ M_hP x) ∧ (x ≠ wr.heap.size))) (okb' := (fun x => x < w.heap.size)) (fun x hx hl => by obtain ⟨hx0, hx1⟩ := hx; exact ⟨hx0, hx1, (by omega)⟩) (fun _ h _ => h)
    replace hP := hP.below hb20
    replace p6 := p6.below hb20
    replace hR := hR.below hb20
    replace hC := hC.below hb20
    clear hb20; generalize wr.alloc (.cells #[.int .i64 0, .int .i64 0, .int .i64 0, .int .i64 0, .slice none 0 0, .int .i64 0, .int .i64 0, .int .i64 0, .int .i64 0] 41) = w22 at p8 z21 hC hP p6 hR ⊢
    refine E.eff (w' := setN w22 (wr.heap.size) 0 [.int .i64 q.k, .int .i64 q.p, .int .i64 q.u, .int .i64 q.n, .slice asw q.m.words.length csw, .int .i64 q.m.lane, .int .i64 q.m.stamp, .int .i64 q.m.late, .int .i64 q.m.seq]) rfl rfl (by exact xStore rfl (hF.at 8 rfl) (hF.at 45 rfl) p8 rfl (by kernel_rfl) rfl) ?_
    have hc24 : Chg (fun x => x = wr.heap.size) w22 (setN w22 (wr.heap.size) 0 [.int .i64 q.k, .int .i64 q.p, .int .i64 q.u, .int .i64 q.n, .slice asw q.m.words.length csw, .int .i64 q.m.lane, .int .i64 q.m.stamp, .int .i64 q.m.late, .int .i64 q.m.seq]) := setN_own _ _ _ _
    have z26 := hc24.size
    replace hP := hP.chg hc24 (fun y hy => by have hy : y = wr.heap.size := hy; subst hy; exact nb23)
    replace p6 := p6.chg hc24 (fun e => by have e : w8.heap.size = wr.heap.size := e; omega)
    replace hR := hR.kept hc24.size (fun x hx hl => hc24.block x hl (fun hn => hx.elim (fun hx => by have hn : x = wr.heap.size := hn; obtain ⟨hx0, hx1, hx2⟩ := hx; omega) (fun hx => by (try dsimp only at hx); exact by have hn : x = wr.heap.size := hn; omega)))
    replace p8 : pts (setN w22 (wr.heap.size) 0 [.int .i64 q.k, .int .i64 q.p, .int .i64 q.u, .int .i64 q.n, .slice asw q.m.words.length csw, .int .i64 q.m.lane, .int .i64 q.m.stamp, .int .i64 q.m.late, .int .i64 q.m.seq]) (wr.heap.size) [.int .i64 q.k, .int .i64 q.p, .int .i64 q.u, .int .i64 q.n, .slice asw q.m.words.length csw, .int .i64 q.m.lane, .int .i64 q.m.stamp, .int .i64 q.m.late, .int .i64 q.m.seq] 41 := setN_pts0 p8 _ rfl
    replace hC := hC.trans hc24 (fun x hx => .inr (by omega))
    clear hc24; generalize setN w22 (wr.heap.size) 0 [.int .i64 q.k, .int .i64 q.p, .int .i64 q.u, .int .i64 q.n, .slice asw q.m.words.length csw, .int .i64 q.m.lane, .int .i64 q.m.stamp, .int .i64 q.m.late, .int .i64 q.m.seq] = w25 at hC z26 hP p6 hR p8 ⊢
    refine wpList_nil ?_
    replace hF := hF.sub (m' := [(8, .pointer (some ⟨wr.heap.size, 0, none⟩)), (7, .int .i64 (i : Int)), (1, .slice a3 ys.length c3), (5, .pointer (some ⟨pb, 0, none⟩)), (6, .pointer (some ⟨w8.heap.size, 0, none⟩))]) ⟨rfl, rfl, rfl, rfl, rfl, trivial⟩
    refine E.then_norm (hK11 _ _ ?_)
    refine wp_seq_k fun K12 hK12 => ?_
    refine wp_region_lit ?_  -- R9
    refine E.val (d := 9) (v := .bool true) (w' := w25) rfl rfl rfl hF (by exact E.xAsC rfl) ?_
    clear hF a; intro a hF
    refine wpList_nil ?_
    refine E.then_norm (hK12 _ _ ?_)
    refine wp_seq_k fun K13 hK13 => ?_
    refine wp_seq_k fun K14 hK14 => ?_
    refine wp_region_lit ?_  -- R10
    refine E.val (d := 46) (v := .agg #[.int .i64 q.k, .int .i64 q.p, .int .i64 q.u, .int .i64 q.n, .slice asw q.m.words.length csw, .int .i64 q.m.lane, .int .i64 q.m.stamp, .int .i64 q.m.late, .int .i64 q.m.seq]) (w' := w25) rfl rfl rfl hF (by exact xLoad rfl (hF.at 8 rfl) p8 Try.underlying41 rfl (by kernel_rfl)) ?_
    clear hF a; intro a hF
    refine E.call (f := 15) (xs := #[.agg #[.int .i64 q.k, .int .i64 q.p, .int .i64 q.u, .int .i64 q.n, .slice asw q.m.words.length csw, .int .i64 q.m.lane, .int .i64 q.m.stamp, .int .i64 q.m.late, .int .i64 q.m.seq]]) rfl rfl rfl hF (by have e46 : a.tmps[46]?.getD undef = .agg #[.int .i64 q.k, .int .i64 q.p, .int .i64 q.u, .int .i64 q.n, .slice asw q.m.words.length csw, .int .i64 q.m.lane, .int .i64 q.m.stamp, .int .i64 q.m.late, .int .i64 q.m.seq] := hF.at 46 rfl; simp [go_sem, e46]) (kind_c _ q _ _ _) ?_
    rintro e w28 ⟨rfl, hb27⟩
    refine ⟨_, rfl, ?_⟩
    clear hF a; intro a hF
    replace hP := hP.below hb27
    replace p6 := p6.below hb27
    replace hR := hR.below hb27
    replace p8 := p8.below hb27
    replace hC := hC.below hb27
    have z29 : w25.heap.size ≤ w28.heap.size := hb27.size
    clear hb27
    refine wpList_nil ?_
    have hkd := kindT_lt q.k; generalize kindT q.k = K at hkd hF
    refine E.then_norm (hK14 _ _ ?_)
    refine wp_block ?_
    refine E.seqJ (fun a w' => w28 = w' ∧ E.Fr 211 [(48, .bool (decide (K < 3))), (47, .int .i64 K), (9, .bool true), (8, .pointer (some ⟨wr.heap.size, 0, none⟩)), (7, .int .i64 (i : Int)), (1, .slice a3 ys.length c3), (5, .pointer (some ⟨pb, 0, none⟩)), (6, .pointer (some ⟨w8.heap.size, 0, none⟩))] a) ?_ ?_
    ·
      refine wp_seq_k fun K15 hK15 => ?_
      refine wp_region_lit ?_  -- R11
      refine E.val (d := 49) (v := .bool (K == 0)) (w' := w28) rfl rfl rfl hF (by have e47 : a.tmps[47]?.getD undef = .int .i64 K := hF.at 47 rfl; simp [go_sem, e47]) ?_
      clear hF a; intro a hF
      refine E.val (d := 48) (v := .bool (K == 0)) (w' := w28) rfl rfl rfl hF (by exact E.xAs rfl (hF.at 49 rfl)) ?_
      clear hF a; intro a hF
      refine wpList_nil ?_
      refine E.then_norm (hK15 _ _ ?_)
      rcases E.bsplit (K == 0) with hc30 | hc30
      ·
        refine E.condT rfl (((hF.at 48 rfl).trans (congrArg Value.bool hc30))) ?_
        refine wp_skip ?_
        have hj : (decide (K < 3)) = true := decide_eq_true (by have hq0 := hc30; simp at hq0; omega)
        refine E.then_norm ⟨rfl, ?_⟩; rw [hj]
        have hF := hF; rw [hc30] at hF
        exact hF.sub (by exact ⟨rfl, rfl, rfl, rfl, rfl, rfl, rfl, rfl, trivial⟩)
      ·
        refine E.condF rfl (((hF.at 48 rfl).trans (congrArg Value.bool hc30))) ?_
        refine wp_seq_k fun K16 hK16 => ?_
        refine wp_region_lit ?_  -- R12
        refine E.val (d := 50) (v := .bool (K == 1)) (w' := w28) rfl rfl rfl hF (by have e47 : a.tmps[47]?.getD undef = .int .i64 K := hF.at 47 rfl; simp [go_sem, e47]) ?_
        clear hF a; intro a hF
        refine E.val (d := 48) (v := .bool (K == 1)) (w' := w28) rfl rfl rfl hF (by exact E.xAs rfl (hF.at 50 rfl)) ?_
        clear hF a; intro a hF
        refine wpList_nil ?_
        refine E.then_norm (hK16 _ _ ?_)
        rcases E.bsplit (K == 1) with hc31 | hc31
        ·
          refine E.condT rfl (((hF.at 48 rfl).trans (congrArg Value.bool hc31))) ?_
          refine wp_skip ?_
          have hj : (decide (K < 3)) = true := decide_eq_true (by have hq0 := hc30; simp at hq0; have hq1 := hc31; simp at hq1; omega)
          refine E.then_norm ⟨rfl, ?_⟩; rw [hj]
          have hF := hF; rw [hc31] at hF
          exact hF.sub (by exact ⟨rfl, rfl, rfl, rfl, rfl, rfl, rfl, rfl, trivial⟩)
        ·
          refine E.condF rfl (((hF.at 48 rfl).trans (congrArg Value.bool hc31))) ?_
          refine wp_region_lit ?_  -- R13
          refine E.val (d := 51) (v := .bool (K == 2)) (w' := w28) rfl rfl rfl hF (by have e47 : a.tmps[47]?.getD undef = .int .i64 K := hF.at 47 rfl; simp [go_sem, e47]) ?_
          clear hF a; intro a hF
          refine E.val (d := 48) (v := .bool (K == 2)) (w' := w28) rfl rfl rfl hF (by exact E.xAs rfl (hF.at 51 rfl)) ?_
          clear hF a; intro a hF
          refine wpList_nil ?_
          rcases E.bsplit (K == 2) with hc32 | hc32
          ·
            have hj : (decide (K < 3)) = true := decide_eq_true (by have hq0 := hc30; simp at hq0; have hq1 := hc31; simp at hq1; have hq2 := hc32; simp at hq2; omega)
            refine E.then_norm ⟨rfl, ?_⟩; rw [hj]
            have hF := hF; rw [hc32] at hF
            exact hF.sub (by exact ⟨rfl, rfl, rfl, rfl, rfl, rfl, rfl, rfl, trivial⟩)
          ·
            have hj : (decide (K < 3)) = false := decide_eq_false (by have hq0 := hc30; simp at hq0; have hq1 := hc31; simp at hq1; have hq2 := hc32; simp at hq2; omega)
            refine E.then_norm ⟨rfl, ?_⟩; rw [hj]
            have hF := hF; rw [hc32] at hF
            exact hF.sub (by exact ⟨rfl, rfl, rfl, rfl, rfl, rfl, rfl, rfl, trivial⟩)
    ·
      clear hF a; rintro a _ ⟨rfl, hF⟩
      rcases E.bsplit (decide (K < 3)) with hc33 | hc33
      ·
        have hK3 := of_decide_eq_true hc33
        refine E.condT rfl (((hF.at 48 rfl).trans (congrArg Value.bool hc33))) ?_
        refine wp_seq_k fun K17 hK17 => ?_
        have hroom := hP.inv.room; have hhold := hP.inv.hold.2; have hPlt := hP.lt
        refine E.tab 10 [Sp.eq (.agg #[.int .i64 p.hold, .slice al nl cl, .slice aw nw cw]), Sp.eq (.agg #[.int .i64 q.k, .int .i64 q.p, .int .i64 q.u, .int .i64 q.n, .slice asw q.m.words.length csw, .int .i64 q.m.lane, .int .i64 q.m.stamp, .int .i64 q.m.late, .int .i64 q.m.seq]), Sp.eq (.agg #[.slice asw ((cut8 q.m).words.length) csw, .int .i64 q.m.lane, .int .i64 q.m.stamp, .int .i64 q.m.late, .int .i64 q.m.seq]), ⟨fun v gs u => ∃ (al1 : Option Addr) (nl1 : Nat) (cl1 : Nat) (aw1 : Option Addr) (nw1 : Nat) (cw1 : Nat), v = .tuple #[.agg #[.int .i64 ((putP p (cut8 q.m)).1.hold), .slice al1 nl1 cl1, .slice aw1 nw1 cw1], .int .i64 ((putP p (cut8 q.m)).2.1), .bool ((putP p (cut8 q.m)).2.2.1), .int .i64 ((putP p (cut8 q.m)).2.2.2)] ∧ RefP (fun x => ((fun x => (w15.heap.size ≤ x) ∧ (¬ M_hP x) ∧ (x ≠ wr.heap.size)) x ∨ w28.heap.size ≤ x) ∧ x ∉ gs) (fun x => x < w.heap.size) u al1 nl1 cl1 aw1 nw1 cw1 (putP p (cut8 q.m)).1, fun v gs u gs' u' ⟨al1, nl1, cl1, aw1, nw1, cw1, e_56, hR1⟩ hs => ⟨al1, nl1, cl1, aw1, nw1, cw1, e_56, hR1.st hs⟩⟩, ⟨fun v gs u => ∃ (al1 : Option Addr) (nl1 : Nat) (cl1 : Nat) (aw1 : Option Addr) (nw1 : Nat) (cw1 : Nat), v = .tuple #[.agg #[.int .i64 ((putP p (cut8 q.m)).1.hold), .slice al1 nl1 cl1, .slice aw1 nw1 cw1], .int .i64 ((putP p (cut8 q.m)).2.1), .bool ((putP p (cut8 q.m)).2.2.1), .int .i64 ((putP p (cut8 q.m)).2.2.2)] ∧ RefP (fun x => ((fun x => (w15.heap.size ≤ x) ∧ (¬ M_hP x) ∧ (x ≠ wr.heap.size)) x ∨ w28.heap.size ≤ x) ∧ x ∉ gs) (fun x => x < w.heap.size) u al1 nl1 cl1 aw1 nw1 cw1 (putP p (cut8 q.m)).1, fun v gs u gs' u' ⟨al1, nl1, cl1, aw1, nw1, cw1, e_52, hR1⟩ hs => ⟨al1, nl1, cl1, aw1, nw1, cw1, e_52, hR1.st hs⟩⟩, ⟨fun v gs u => ∃ (al1 : Option Addr) (nl1 : Nat) (cl1 : Nat) (aw1 : Option Addr) (nw1 : Nat) (cw1 : Nat), v = .agg #[.int .i64 ((putP p (cut8 q.m)).1.hold), .slice al1 nl1 cl1, .slice aw1 nw1 cw1] ∧ RefP (fun x => ((fun x => (w15.heap.size ≤ x) ∧ (¬ M_hP x) ∧ (x ≠ wr.heap.size)) x ∨ w28.heap.size ≤ x) ∧ x ∉ gs) (fun x => x < w.heap.size) u al1 nl1 cl1 aw1 nw1 cw1 (putP p (cut8 q.m)).1, fun v gs u gs' u' ⟨al1, nl1, cl1, aw1, nw1, cw1, e_57, hR1⟩ hs => ⟨al1, nl1, cl1, aw1, nw1, cw1, e_57, hR1.st hs⟩⟩, Sp.eq (.int .i64 ((putP p (cut8 q.m)).2.1)), Sp.eq (.bool ((putP p (cut8 q.m)).2.2.1)), Sp.eq (.int .i64 ((putP p (cut8 q.m)).2.2.2)), Sp.box 56 [.int .i64 0, .slice none 0 0, .slice none 0 0]] hF (fun _ _ _ _ _ h => h) (by kernel_rfl) (by kernel_rfl) ⟨?_, ?_, ?_, ?_, ?_, ?_, ?_, ?_, ?_, ?_, trivial⟩ ?_  -- R14
        · intro ac gs u hbO hgO hO
          refine opFree rfl ?_
          exact relRun (v := .agg #[.int .i64 p.hold, .slice al nl cl, .slice aw nw cw]) (w' := u) (by exact xLoad rfl ((hO.inm 6 rfl (hF.ev 6 _ rfl))) (p6.below hbO) Try.underlying56 rfl (by kernel_rfl)) (okP hgO rfl)
        · intro ac gs u hbO hgO hO
          refine opFree rfl ?_
          exact relRun (v := .agg #[.int .i64 q.k, .int .i64 q.p, .int .i64 q.u, .int .i64 q.n, .slice asw q.m.words.length csw, .int .i64 q.m.lane, .int .i64 q.m.stamp, .int .i64 q.m.late, .int .i64 q.m.seq]) (w' := u) (by exact xLoad rfl ((hO.inm 8 rfl (hF.ev 8 _ rfl))) (p8.below hbO) Try.underlying41 rfl (by kernel_rfl)) (okP hgO rfl)
        · intro ac gs u hbO hgO hO
          refine opFree rfl ?_
          refine relCall (f := 16) (args := #[.agg #[.int .i64 q.k, .int .i64 q.p, .int .i64 q.u, .int .i64 q.n, .slice asw q.m.words.length csw, .int .i64 q.m.lane, .int .i64 q.m.stamp, .int .i64 q.m.late, .int .i64 q.m.seq]]) (by have e54 : ac.tmps[54]?.getD undef = .agg #[.int .i64 q.k, .int .i64 q.p, .int .i64 q.u, .int .i64 q.n, .slice asw q.m.words.length csw, .int .i64 q.m.lane, .int .i64 q.m.stamp, .int .i64 q.m.late, .int .i64 q.m.seq] := (show ac.tmps[54]?.getD undef = .agg #[.int .i64 q.k, .int .i64 q.p, .int .i64 q.u, .int .i64 q.n, .slice asw q.m.words.length csw, .int .i64 q.m.lane, .int .i64 q.m.stamp, .int .i64 q.m.late, .int .i64 q.m.seq] from hO.tm 1 54 rfl rfl); simp [go_sem, e54]) ?_
          refine Calls.mono (message_c q (hwi.below (E.below_of (hC.below hbO)))) ?_
          rintro e u' ⟨rfl, hb34⟩
          exact ⟨_, rfl, okB hgO hb34 rfl⟩
        · intro ac gs u hbO hgO hO
          refine opFree rfl ?_
          refine relCall (f := 26) (args := #[.agg #[.int .i64 p.hold, .slice al nl cl, .slice aw nw cw], .agg #[.slice asw ((cut8 q.m).words.length) csw, .int .i64 q.m.lane, .int .i64 q.m.stamp, .int .i64 q.m.late, .int .i64 q.m.seq]]) (by have e53 : ac.tmps[53]?.getD undef = .agg #[.int .i64 p.hold, .slice al nl cl, .slice aw nw cw] := (show ac.tmps[53]?.getD undef = .agg #[.int .i64 p.hold, .slice al nl cl, .slice aw nw cw] from hO.tm 0 53 rfl rfl); have e55 : ac.tmps[55]?.getD undef = .agg #[.slice asw ((cut8 q.m).words.length) csw, .int .i64 q.m.lane, .int .i64 q.m.stamp, .int .i64 q.m.late, .int .i64 q.m.seq] := (show ac.tmps[55]?.getD undef = .agg #[.slice asw ((cut8 q.m).words.length) csw, .int .i64 q.m.lane, .int .i64 q.m.stamp, .int .i64 q.m.late, .int .i64 q.m.seq] from hO.tm 2 55 rfl rfl); simp [go_sem, e53, e55]) ?_
          refine Calls.mono (put_p (m := cut8 q.m) ((hR.mono (okr' := fun x => (fun x => (w15.heap.size ≤ x) ∧ (¬ M_hP x) ∧ (x ≠ wr.heap.size)) x ∧ x < w28.heap.size) (okb' := (fun x => x < w.heap.size)) (fun x hx hl => ⟨hx, hl⟩) (fun _ h _ => h)).below hbO) hroom hhold (hw8.below (E.below_of (hC.below hbO)))) ?_
          rintro e u' ⟨v, rfl, hRn, hb35⟩
          obtain ⟨al1, nl1, cl1, aw1, nw1, cw1, rfl, hR1⟩ := hRn.reg hbO hgO
          exact ⟨_, rfl, okB hgO hb35 ⟨_, _, _, _, _, _, rfl, hR1⟩⟩
        · intro ac gs u hbO hgO hO
          obtain ⟨al1, nl1, cl1, aw1, nw1, cw1, e_56, hR1⟩ := hO.tm 3 56 rfl rfl
          refine opFree rfl ?_
          exact relRun (v := .tuple #[.agg #[.int .i64 ((putP p (cut8 q.m)).1.hold), .slice al1 nl1 cl1, .slice aw1 nw1 cw1], .int .i64 ((putP p (cut8 q.m)).2.1), .bool ((putP p (cut8 q.m)).2.2.1), .int .i64 ((putP p (cut8 q.m)).2.2.2)]) (w' := u) (by exact E.xMv rfl (e_56)) (okP hgO ⟨al1, nl1, cl1, aw1, nw1, cw1, rfl, hR1⟩)
        · intro ac gs u hbO hgO hO
          obtain ⟨al1, nl1, cl1, aw1, nw1, cw1, e_52, hR1⟩ := hO.tm 4 52 rfl rfl
          refine opFree rfl ?_
          exact relRun (v := .agg #[.int .i64 ((putP p (cut8 q.m)).1.hold), .slice al1 nl1 cl1, .slice aw1 nw1 cw1]) (w' := u) (by exact E.xExt (xs := [.agg #[.int .i64 ((putP p (cut8 q.m)).1.hold), .slice al1 nl1 cl1, .slice aw1 nw1 cw1], .int .i64 ((putP p (cut8 q.m)).2.1), .bool ((putP p (cut8 q.m)).2.2.1), .int .i64 ((putP p (cut8 q.m)).2.2.2)]) rfl (e_52) rfl) (okP hgO ⟨al1, nl1, cl1, aw1, nw1, cw1, rfl, hR1⟩)
        · intro ac gs u hbO hgO hO
          obtain ⟨al1, nl1, cl1, aw1, nw1, cw1, e_52, hR1⟩ := hO.tm 4 52 rfl rfl
          refine opFree rfl ?_
          exact relRun (v := .int .i64 ((putP p (cut8 q.m)).2.1)) (w' := u) (by exact E.xExt (xs := [.agg #[.int .i64 ((putP p (cut8 q.m)).1.hold), .slice al1 nl1 cl1, .slice aw1 nw1 cw1], .int .i64 ((putP p (cut8 q.m)).2.1), .bool ((putP p (cut8 q.m)).2.2.1), .int .i64 ((putP p (cut8 q.m)).2.2.2)]) rfl (e_52) rfl) (okP hgO rfl)
        · intro ac gs u hbO hgO hO
          obtain ⟨al1, nl1, cl1, aw1, nw1, cw1, e_52, hR1⟩ := hO.tm 4 52 rfl rfl
          refine opFree rfl ?_
          exact relRun (v := .bool ((putP p (cut8 q.m)).2.2.1)) (w' := u) (by exact E.xExt (xs := [.agg #[.int .i64 ((putP p (cut8 q.m)).1.hold), .slice al1 nl1 cl1, .slice aw1 nw1 cw1], .int .i64 ((putP p (cut8 q.m)).2.1), .bool ((putP p (cut8 q.m)).2.2.1), .int .i64 ((putP p (cut8 q.m)).2.2.2)]) rfl (e_52) rfl) (okP hgO rfl)
        · intro ac gs u hbO hgO hO
          obtain ⟨al1, nl1, cl1, aw1, nw1, cw1, e_52, hR1⟩ := hO.tm 4 52 rfl rfl
          refine opFree rfl ?_
          exact relRun (v := .int .i64 ((putP p (cut8 q.m)).2.2.2)) (w' := u) (by exact E.xExt (xs := [.agg #[.int .i64 ((putP p (cut8 q.m)).1.hold), .slice al1 nl1 cl1, .slice aw1 nw1 cw1], .int .i64 ((putP p (cut8 q.m)).2.1), .bool ((putP p (cut8 q.m)).2.2.1), .int .i64 ((putP p (cut8 q.m)).2.2.2)]) rfl (e_52) rfl) (okP hgO rfl)
        · intro ac gs u hbO hgO hO
          refine opFree rfl ?_
          exact relRun (v := .pointer (some ⟨u.heap.size, 0, none⟩)) (w' := u.alloc (.cells #[.int .i64 0, .slice none 0 0, .slice none 0 0] 56)) (by simp [go_sem]) (okA _ hgO ⟨_, rfl, List.mem_cons_self, pts.newA u _ _⟩)
        intro vs gs w36 hb37 hgO hrO
        have r0 : vs 0 = .agg #[.int .i64 p.hold, .slice al nl cl, .slice aw nw cw] := hrO 0 (by decide)
        have r1 : vs 1 = .agg #[.int .i64 q.k, .int .i64 q.p, .int .i64 q.u, .int .i64 q.n, .slice asw q.m.words.length csw, .int .i64 q.m.lane, .int .i64 q.m.stamp, .int .i64 q.m.late, .int .i64 q.m.seq] := hrO 1 (by decide)
        have r2 : vs 2 = .agg #[.slice asw ((cut8 q.m).words.length) csw, .int .i64 q.m.lane, .int .i64 q.m.stamp, .int .i64 q.m.late, .int .i64 q.m.seq] := hrO 2 (by decide)
        obtain ⟨al1, nl1, cl1, aw1, nw1, cw1, e_57, hR1⟩ := hrO 5 (by decide)
        have r6 : vs 6 = .int .i64 ((putP p (cut8 q.m)).2.1) := hrO 6 (by decide)
        have r7 : vs 7 = .bool ((putP p (cut8 q.m)).2.2.1) := hrO 7 (by decide)
        have r8 : vs 8 = .int .i64 ((putP p (cut8 q.m)).2.2.2) := hrO 8 (by decide)
        obtain ⟨nb10, r9, hm10, p10⟩ := hrO 9 (by decide)
        intro a hF'; clear hF hrO; have hF := hF'; clear hF'
        simp only [List.take_succ_cons, List.take_zero, E.putsM, r0, r1, r2, e_57, r6, r7, r8, r9] at hF
        clear r0 r1 r2 e_57 r6 r7 r8 r9
        have z38a : w28.heap.size ≤ nb10 := (hgO nb10 hm10).1; have z38b := (hgO nb10 hm10).2
        have nb39 : ¬ M_hP (nb10) ∧ ¬ W_hP (nb10) := ⟨fun hm => by have := hP.lt (nb10) (.inl hm); omega, fun hm => by have := hP.lt (nb10) (.inr hm); omega⟩
        replace hR := hR.mono (okr' := (fun x => (w15.heap.size ≤ x) ∧ (¬ M_hP x) ∧ (x ≠ wr.heap.size) ∧ (x ≠ nb10))) (okb' := (fun x => x < w.heap.size)) (fun x hx hl => by obtain ⟨hx0, hx1, hx2⟩ := hx; exact ⟨hx0, hx1, hx2, (by omega)⟩) (fun _ h _ => h)
        replace hP := hP.below hb37
        replace p6 := p6.below hb37
        replace hR := hR.below hb37
        replace p8 := p8.below hb37
        replace hC := hC.below hb37
        have z40 : w28.heap.size ≤ w36.heap.size := hb37.size
        clear hb37 hgO
        clear hR; have hR := hR1.mono (okr' := (fun x => (w15.heap.size ≤ x) ∧ (¬ M_hP x) ∧ (x ≠ wr.heap.size) ∧ (x ≠ nb10))) (okb' := (fun x => x < w.heap.size)) (fun x hx hl => by obtain ⟨hx, hxg⟩ := hx; exact hx.elim (fun hx => by obtain ⟨hx0, hx1, hx2⟩ := hx; exact ⟨hx0, hx1, hx2, (fun e => hxg (e ▸ hm10))⟩) (fun hx => ⟨by omega, fun hm => by have := hPlt x (.inl hm); omega, by omega, (fun e => hxg (e ▸ hm10))⟩)) (fun _ h _ => h)
        clear hR1
        simp only [List.drop_succ_cons, List.drop_zero]
        refine E.eff (w' := setN w36 (nb10) 0 [.int .i64 ((putP p (cut8 q.m)).1.hold), .slice al1 nl1 cl1, .slice aw1 nw1 cw1]) rfl rfl (by exact xStore rfl (hF.at 10 rfl) (hF.at 57 rfl) p10 rfl (by kernel_rfl) rfl) ?_
        have hc41 : Chg (fun x => x = nb10) w36 (setN w36 (nb10) 0 [.int .i64 ((putP p (cut8 q.m)).1.hold), .slice al1 nl1 cl1, .slice aw1 nw1 cw1]) := setN_own _ _ _ _
        have z43 := hc41.size
        replace hP := hP.chg hc41 (fun y hy => by have hy : y = nb10 := hy; subst hy; exact nb39)
        replace p6 := p6.chg hc41 (fun e => by have e : w8.heap.size = nb10 := e; omega)
        replace hR := hR.kept hc41.size (fun x hx hl => hc41.block x hl (fun hn => hx.elim (fun hx => by have hn : x = nb10 := hn; obtain ⟨hx0, hx1, hx2, hx3⟩ := hx; omega) (fun hx => by (try dsimp only at hx); exact by have hn : x = nb10 := hn; omega)))
        replace p8 := p8.chg hc41 (fun e => by have e : wr.heap.size = nb10 := e; omega)
        replace p10 : pts (setN w36 (nb10) 0 [.int .i64 ((putP p (cut8 q.m)).1.hold), .slice al1 nl1 cl1, .slice aw1 nw1 cw1]) (nb10) [.int .i64 ((putP p (cut8 q.m)).1.hold), .slice al1 nl1 cl1, .slice aw1 nw1 cw1] 56 := setN_pts0 p10 _ rfl
        replace hC := hC.trans hc41 (fun x hx => .inr (by omega))
        clear hc41; generalize setN w36 (nb10) 0 [.int .i64 ((putP p (cut8 q.m)).1.hold), .slice al1 nl1 cl1, .slice aw1 nw1 cw1] = w42 at hC z43 hP p6 hR p8 p10 ⊢
        refine E.val (d := 11) (v := .int .i64 ((putP p (cut8 q.m)).2.1)) (w' := w42) rfl rfl rfl hF (by exact E.xAs rfl (hF.at 58 rfl)) ?_
        clear hF a; intro a hF
        refine E.val (d := 12) (v := .bool ((putP p (cut8 q.m)).2.2.1)) (w' := w42) rfl rfl rfl hF (by exact E.xAs rfl (hF.at 59 rfl)) ?_
        clear hF a; intro a hF
        refine E.val (d := 13) (v := .int .i64 ((putP p (cut8 q.m)).2.2.2)) (w' := w42) rfl rfl rfl hF (by exact E.xAs rfl (hF.at 60 rfl)) ?_
        clear hF a; intro a hF
        refine wpList_nil ?_
        replace hF := hF.sub (m' := [(13, .int .i64 ((putP p (cut8 q.m)).2.2.2)), (12, .bool ((putP p (cut8 q.m)).2.2.1)), (11, .int .i64 ((putP p (cut8 q.m)).2.1)), (10, .pointer (some ⟨nb10, 0, none⟩)), (8, .pointer (some ⟨wr.heap.size, 0, none⟩)), (7, .int .i64 (i : Int)), (1, .slice a3 ys.length c3), (5, .pointer (some ⟨pb, 0, none⟩)), (6, .pointer (some ⟨w8.heap.size, 0, none⟩))]) ⟨rfl, rfl, rfl, rfl, rfl, rfl, rfl, rfl, rfl, trivial⟩
        refine E.then_norm (hK17 _ _ ?_)
        refine wp_seq_k fun K18 hK18 => ?_
        refine wp_region_lit ?_  -- R15
        refine E.val (d := 61) (v := .agg #[.int .i64 ((putP p (cut8 q.m)).1.hold), .slice al1 nl1 cl1, .slice aw1 nw1 cw1]) (w' := w42) rfl rfl rfl hF (by exact xLoad rfl (hF.at 10 rfl) p10 Try.underlying56 rfl (by kernel_rfl)) ?_
        clear hF a; intro a hF
        refine E.eff (w' := setN w42 (w8.heap.size) 0 [.int .i64 ((putP p (cut8 q.m)).1.hold), .slice al1 nl1 cl1, .slice aw1 nw1 cw1]) rfl rfl (by exact xStore rfl (hF.at 6 rfl) (hF.at 61 rfl) p6 rfl (by kernel_rfl) rfl) ?_
        have hc44 : Chg (fun x => x = w8.heap.size) w42 (setN w42 (w8.heap.size) 0 [.int .i64 ((putP p (cut8 q.m)).1.hold), .slice al1 nl1 cl1, .slice aw1 nw1 cw1]) := setN_own _ _ _ _
        have z46 := hc44.size
        replace hP := hP.chg hc44 (fun y hy => by have hy : y = w8.heap.size := hy; subst hy; exact nb13)
        replace hR := hR.kept hc44.size (fun x hx hl => hc44.block x hl (fun hn => hx.elim (fun hx => by have hn : x = w8.heap.size := hn; obtain ⟨hx0, hx1, hx2, hx3⟩ := hx; omega) (fun hx => by (try dsimp only at hx); exact by have hn : x = w8.heap.size := hn; omega)))
        replace p8 := p8.chg hc44 (fun e => by have e : wr.heap.size = w8.heap.size := e; omega)
        replace p10 := p10.chg hc44 (fun e => by have e : nb10 = w8.heap.size := e; omega)
        replace p6 : pts (setN w42 (w8.heap.size) 0 [.int .i64 ((putP p (cut8 q.m)).1.hold), .slice al1 nl1 cl1, .slice aw1 nw1 cw1]) (w8.heap.size) [.int .i64 ((putP p (cut8 q.m)).1.hold), .slice al1 nl1 cl1, .slice aw1 nw1 cw1] 56 := setN_pts0 p6 _ rfl
        replace hC := hC.trans hc44 (fun x hx => .inr (by omega))
        clear hc44; generalize setN w42 (w8.heap.size) 0 [.int .i64 ((putP p (cut8 q.m)).1.hold), .slice al1 nl1 cl1, .slice aw1 nw1 cw1] = w45 at hC z46 hP p6 hR p8 p10 ⊢
        refine wpList_nil ?_
        refine E.then_norm (hK18 _ _ ?_)
        refine wp_seq_k fun K19 hK19 => ?_
        refine wp_region_lit ?_  -- R16
        refine E.val (d := 63) (v := .pointer (some ⟨pb, 0, none⟩)) (w' := w45) rfl rfl rfl hF (by exact E.xMv rfl (hF.at 5 rfl)) ?_
        clear hF a; intro a hF
        refine E.val (d := 64) (v := .agg #[.int .i64 q.k, .int .i64 q.p, .int .i64 q.u, .int .i64 q.n, .slice asw q.m.words.length csw, .int .i64 q.m.lane, .int .i64 q.m.stamp, .int .i64 q.m.late, .int .i64 q.m.seq]) (w' := w45) rfl rfl rfl hF (by exact xLoad rfl (hF.at 8 rfl) p8 Try.underlying41 rfl (by kernel_rfl)) ?_
        clear hF a; intro a hF
        refine E.call (f := 16) (xs := #[.agg #[.int .i64 q.k, .int .i64 q.p, .int .i64 q.u, .int .i64 q.n, .slice asw q.m.words.length csw, .int .i64 q.m.lane, .int .i64 q.m.stamp, .int .i64 q.m.late, .int .i64 q.m.seq]]) rfl rfl rfl hF (by have e64 : a.tmps[64]?.getD undef = .agg #[.int .i64 q.k, .int .i64 q.p, .int .i64 q.u, .int .i64 q.n, .slice asw q.m.words.length csw, .int .i64 q.m.lane, .int .i64 q.m.stamp, .int .i64 q.m.late, .int .i64 q.m.seq] := hF.at 64 rfl; simp [go_sem, e64]) (message_c q (hwi.below (E.below_of hC))) ?_
        rintro e w48 ⟨rfl, hb47⟩
        refine ⟨_, rfl, ?_⟩
        clear hF a; intro a hF
        replace hP := hP.below hb47
        replace p6 := p6.below hb47
        replace hR := hR.below hb47
        replace p8 := p8.below hb47
        replace hC := hC.below hb47
        have z49 : w45.heap.size ≤ w48.heap.size := hb47.size
        clear hb47
        refine E.call (f := 12) (xs := #[.pointer (some ⟨pb, 0, none⟩), .agg #[.slice asw ((cut8 q.m).words.length) csw, .int .i64 q.m.lane, .int .i64 q.m.stamp, .int .i64 q.m.late, .int .i64 q.m.seq]]) rfl rfl rfl hF (by have e63 : a.tmps[63]?.getD undef = .pointer (some ⟨pb, 0, none⟩) := hF.at 63 rfl; have e65 : a.tmps[65]?.getD undef = .agg #[.slice asw ((cut8 q.m).words.length) csw, .int .i64 q.m.lane, .int .i64 q.m.stamp, .int .i64 q.m.late, .int .i64 q.m.seq] := hF.at 65 rfl; simp [go_sem, e63, e65]) (put_x (m := cut8 q.m) hP ((hw8.below (E.below_of hC)).mono (fun _ h _ => h)) h8l) ?_
        rintro e w50 ⟨rfl, M1, hP1, hsub, -, hc1⟩
        refine ⟨_, rfl, ?_⟩
        clear hF a; intro a hF
        have z51 := hc1.size
        have ol_p6 := p6.lt
        have ol_p8 := p8.lt
        replace p6 := p6.chg hc1 nb13.1
        replace hR := (hR.mono (okr' := fun x => (fun x => (w15.heap.size ≤ x) ∧ (¬ M_hP x) ∧ (x ≠ wr.heap.size) ∧ (x ≠ nb10)) x ∧ x < w48.heap.size) (okb' := (fun x => x < w.heap.size)) (fun x hx hl => ⟨hx, hl⟩) (fun _ h _ => h))
        replace hR := (hR.kept hc1.size (fun x hx hl => hc1.block x hl (fun hn => hx.elim (fun hx => by obtain ⟨⟨hx0, hx1, hx2, hx3⟩, hy⟩ := hx; exact hx1 hn) (fun hx => by (try dsimp only at hx); have := hge x hn; omega)))).mono (okr' := (fun x => (w15.heap.size ≤ x) ∧ (¬ M1 x) ∧ (x ≠ wr.heap.size) ∧ (x ≠ nb10))) (okb' := (fun x => x < w.heap.size)) (fun x hx _ => by obtain ⟨⟨hx0, hx1, hx2, hx3⟩, hy⟩ := hx; exact ⟨hx0, fun e => (hsub x e).elim hx1 (fun h => by omega), hx2, hx3⟩) (fun _ h _ => h)
        replace p8 := p8.chg hc1 nb23.1
        replace hC := hC.trans hc1 (fun x hx => .inr (hge x hx))
        replace nb13 : ¬ M1 (w8.heap.size) ∧ ¬ (newW W_hP M1 w48 w50) (w8.heap.size) := ⟨fun h => (hsub _ h).elim nb13.1 (fun h => by have := ol_p6; omega), fun h => h.elim nb13.2 (fun h => by have := h.1; have := ol_p6; omega)⟩
        replace nb23 : ¬ M1 (wr.heap.size) ∧ ¬ (newW W_hP M1 w48 w50) (wr.heap.size) := ⟨fun h => (hsub _ h).elim nb23.1 (fun h => by have := ol_p8; omega), fun h => h.elim nb23.2 (fun h => by have := h.1; have := ol_p8; omega)⟩
        replace hge : ∀ x, M1 x → w.heap.size ≤ x := fun x h => (hsub x h).elim (hge x) (fun h => by omega)
        replace hP := hP1; clear hsub hc1 ol_p6 ol_p8
        refine E.val (d := 62) (v := .tuple #[.int .i64 ((putP p (cut8 q.m)).2.1), .bool ((putP p (cut8 q.m)).2.2.1), .int .i64 ((putP p (cut8 q.m)).2.2.2)]) (w' := w50) rfl rfl rfl hF (by exact E.xMv rfl (hF.at 66 rfl)) ?_
        clear hF a; intro a hF
        refine E.val (d := 67) (v := .int .i64 ((putP p (cut8 q.m)).2.1)) (w' := w50) rfl rfl rfl hF (by exact E.xExt (xs := [.int .i64 ((putP p (cut8 q.m)).2.1), .bool ((putP p (cut8 q.m)).2.2.1), .int .i64 ((putP p (cut8 q.m)).2.2.2)]) rfl (hF.at 62 rfl) rfl) ?_
        clear hF a; intro a hF
        refine E.val (d := 68) (v := .bool ((putP p (cut8 q.m)).2.2.1)) (w' := w50) rfl rfl rfl hF (by exact E.xExt (xs := [.int .i64 ((putP p (cut8 q.m)).2.1), .bool ((putP p (cut8 q.m)).2.2.1), .int .i64 ((putP p (cut8 q.m)).2.2.2)]) rfl (hF.at 62 rfl) rfl) ?_
        clear hF a; intro a hF
        refine E.val (d := 69) (v := .int .i64 ((putP p (cut8 q.m)).2.2.2)) (w' := w50) rfl rfl rfl hF (by exact E.xExt (xs := [.int .i64 ((putP p (cut8 q.m)).2.1), .bool ((putP p (cut8 q.m)).2.2.1), .int .i64 ((putP p (cut8 q.m)).2.2.2)]) rfl (hF.at 62 rfl) rfl) ?_
        clear hF a; intro a hF
        refine E.val (d := 14) (v := .int .i64 ((putP p (cut8 q.m)).2.1)) (w' := w50) rfl rfl rfl hF (by exact E.xAs rfl (hF.at 67 rfl)) ?_
        clear hF a; intro a hF
        refine E.val (d := 15) (v := .bool ((putP p (cut8 q.m)).2.2.1)) (w' := w50) rfl rfl rfl hF (by exact E.xAs rfl (hF.at 68 rfl)) ?_
        clear hF a; intro a hF
        refine E.val (d := 16) (v := .int .i64 ((putP p (cut8 q.m)).2.2.2)) (w' := w50) rfl rfl rfl hF (by exact E.xAs rfl (hF.at 69 rfl)) ?_
        clear hF a; intro a hF
        refine wpList_nil ?_
        replace hF := hF.sub (m' := [(16, .int .i64 ((putP p (cut8 q.m)).2.2.2)), (15, .bool ((putP p (cut8 q.m)).2.2.1)), (14, .int .i64 ((putP p (cut8 q.m)).2.1)), (13, .int .i64 ((putP p (cut8 q.m)).2.2.2)), (12, .bool ((putP p (cut8 q.m)).2.2.1)), (11, .int .i64 ((putP p (cut8 q.m)).2.1)), (8, .pointer (some ⟨wr.heap.size, 0, none⟩)), (7, .int .i64 (i : Int)), (1, .slice a3 ys.length c3), (5, .pointer (some ⟨pb, 0, none⟩)), (6, .pointer (some ⟨w8.heap.size, 0, none⟩))]) ⟨rfl, rfl, rfl, rfl, rfl, rfl, rfl, rfl, rfl, rfl, rfl, trivial⟩
        refine E.then_norm (hK19 _ _ ?_)
        refine wp_region_lit ?_  -- R17
        refine E.val (d := 70) (v := .int .i64 ((putP p (cut8 q.m)).2.1)) (w' := w50) rfl rfl rfl hF (by exact E.xMv rfl (hF.at 11 rfl)) ?_
        clear hF a; intro a hF
        refine E.val (d := 71) (v := .int .i64 ((putP p (cut8 q.m)).2.1)) (w' := w50) rfl rfl rfl hF (by exact E.xMv rfl (hF.at 14 rfl)) ?_
        clear hF a; intro a hF
        refine E.val (d := 72) (v := .bool true) (w' := w50) rfl rfl rfl hF (by have e70 : a.tmps[70]?.getD undef = .int .i64 ((putP p (cut8 q.m)).2.1) := hF.at 70 rfl; have e71 : a.tmps[71]?.getD undef = .int .i64 ((putP p (cut8 q.m)).2.1) := hF.at 71 rfl; simp [go_sem, e70, e71]) ?_
        clear hF a; intro a hF
        refine E.val (d := 73) (v := .bool true) (w' := w50) rfl rfl rfl hF (by exact E.xMv rfl (hF.at 72 rfl)) ?_
        clear hF a; intro a hF
        refine E.valG (d := 74) (v := .bool ((putP p (cut8 q.m)).2.2.1)) (w' := w50) rfl rfl (hF.at 73 rfl) rfl rfl hF (by exact E.xMv rfl (hF.at 15 rfl)) ?_
        clear hF a; intro a hF
        refine E.valG (d := 75) (v := .bool ((putP p (cut8 q.m)).2.2.1)) (w' := w50) rfl rfl (hF.at 73 rfl) rfl rfl hF (by exact E.xMv rfl (hF.at 12 rfl)) ?_
        clear hF a; intro a hF
        refine E.valG (d := 76) (v := .bool true) (w' := w50) rfl rfl (hF.at 73 rfl) rfl rfl hF (by have e74 : a.tmps[74]?.getD undef = .bool ((putP p (cut8 q.m)).2.2.1) := hF.at 74 rfl; have e75 : a.tmps[75]?.getD undef = .bool ((putP p (cut8 q.m)).2.2.1) := hF.at 75 rfl; simp [go_sem, e74, e75]) ?_
        clear hF a; intro a hF
        refine E.val (d := 77) (v := .bool true) (w' := w50) rfl rfl rfl hF (by have e73 : a.tmps[73]?.getD undef = .bool true := hF.at 73 rfl; have e76 : a.tmps[76]?.getD undef = .bool true := hF.at 76 rfl; simp [go_sem, e73, e76]) ?_
        clear hF a; intro a hF
        refine E.val (d := 78) (v := .bool true) (w' := w50) rfl rfl rfl hF (by exact E.xMv rfl (hF.at 77 rfl)) ?_
        clear hF a; intro a hF
        refine E.valG (d := 79) (v := .int .i64 ((putP p (cut8 q.m)).2.2.2)) (w' := w50) rfl rfl (hF.at 78 rfl) rfl rfl hF (by exact E.xMv rfl (hF.at 16 rfl)) ?_
        clear hF a; intro a hF
        refine E.valG (d := 80) (v := .int .i64 ((putP p (cut8 q.m)).2.2.2)) (w' := w50) rfl rfl (hF.at 78 rfl) rfl rfl hF (by exact E.xMv rfl (hF.at 13 rfl)) ?_
        clear hF a; intro a hF
        refine E.valG (d := 81) (v := .bool true) (w' := w50) rfl rfl (hF.at 78 rfl) rfl rfl hF (by have e79 : a.tmps[79]?.getD undef = .int .i64 ((putP p (cut8 q.m)).2.2.2) := hF.at 79 rfl; have e80 : a.tmps[80]?.getD undef = .int .i64 ((putP p (cut8 q.m)).2.2.2) := hF.at 80 rfl; simp [go_sem, e79, e80]) ?_
        clear hF a; intro a hF
        refine E.val (d := 82) (v := .bool true) (w' := w50) rfl rfl rfl hF (by have e78 : a.tmps[78]?.getD undef = .bool true := hF.at 78 rfl; have e81 : a.tmps[81]?.getD undef = .bool true := hF.at 81 rfl; simp [go_sem, e78, e81]) ?_
        clear hF a; intro a hF
        refine E.val (d := 9) (v := .bool true) (w' := w50) rfl rfl rfl hF (by exact E.xAs rfl (hF.at 82 rfl)) ?_
        clear hF a; intro a hF
        refine wpList_nil ?_
        have h1 := putP_of p (cut8 q.m)
        refine E.in_norm ?_
        replace hF := hF.sub (m' := [(9, .bool true), (8, .pointer (some ⟨wr.heap.size, 0, none⟩)), (7, .int .i64 (i : Int)), (1, .slice a3 ys.length c3), (5, .pointer (some ⟨pb, 0, none⟩)), (6, .pointer (some ⟨w8.heap.size, 0, none⟩))]) ⟨rfl, rfl, rfl, rfl, rfl, rfl, trivial⟩
        refine E.then_norm (hK13 _ _ ?_)
        refine wp_seq_k fun K20 hK20 => ?_
        have hln := hR.lens.1; have hps1 : ((putP p (cut8 q.m)).1).s ≤ (i : Int) + 1 := (by have := h1.2.1; omega); have hpr1 : ((putP p (cut8 q.m)).1).row.length ≤ i + 1 := (by have := h1.2.2; omega)
        have hk39 : (!((((putP p (cut8 q.m)).1).ms.length : Int) == (nl1 : Int))) = false := by rw [show nl1 = ((putP p (cut8 q.m)).1).ms.length from hln]; simp
        refine E.tab 37 [Sp.eq (.bool true), Sp.eq (.bool false), Sp.eq (.bool false), Sp.eq (.pointer (some ⟨pb, 0, none⟩)), Sp.eq (.int .i64 (((putP p (cut8 q.m)).1).ms.length : Int)), Sp.eq (.pointer (some ⟨w8.heap.size, 1, none⟩)), Sp.eq (.slice al1 nl1 cl1), Sp.eq (.int .i64 (nl1 : Int)), Sp.eq (.bool (!((((putP p (cut8 q.m)).1).ms.length : Int) == (nl1 : Int)))), Sp.eq (.bool (!((((putP p (cut8 q.m)).1).ms.length : Int) == (nl1 : Int)))), Sp.eq (.bool (!((((putP p (cut8 q.m)).1).ms.length : Int) == (nl1 : Int)))), Sp.eq (.pointer (some ⟨pb, 0, none⟩)), Sp.of (fun v u => ∃ (aA : Option Addr) (cA : Nat) (qA : List (Value × Msg)), v = .slice aA qA.length cA ∧ MsgsAt (fun _ => True) (fun _ => True) u (.slice aA qA.length cA) qA ∧ qA.map Prod.snd = ((putP p (cut8 q.m)).1).ms) (fun v u u' ⟨aA, cA, qA, e_186, hAm, hAq⟩ hb => ⟨aA, cA, qA, e_186, hAm.below hb, hAq⟩), Sp.eq (.pointer (some ⟨w8.heap.size, 1, none⟩)), Sp.eq (.slice al1 nl1 cl1), Sp.eq (.bool true), Sp.eq (.bool false), Sp.eq (.bool false), Sp.eq (.bool false), Sp.eq (.pointer (some ⟨pb, 0, none⟩)), Sp.of (fun v u => ∃ (aX : Option Addr) (cX : Nat), v = .slice aX (((putP p (cut8 q.m)).1).row.length) cX ∧ IntsAt (fun _ => True) u (.slice aX ((putP p (cut8 q.m)).1).row.length cX) ((putP p (cut8 q.m)).1).row) (fun v u u' ⟨aX, cX, e_194, hX⟩ hb => ⟨aX, cX, e_194, hX.below hb⟩), Sp.eq (.agg #[.int .i64 ((putP p (cut8 q.m)).1.hold), .slice al1 nl1 cl1, .slice aw1 nw1 cw1]), Sp.of (fun v u => ∃ (aY : Option Addr) (cY : Nat), v = .slice aY (((putP p (cut8 q.m)).1).row.length) cY ∧ IntsAt (fun _ => True) u (.slice aY ((putP p (cut8 q.m)).1).row.length cY) ((putP p (cut8 q.m)).1).row) (fun v u u' ⟨aY, cY, e_196, hY⟩ hb => ⟨aY, cY, e_196, hY.below hb⟩), Sp.eq (.bool true), Sp.eq (.bool false), Sp.eq (.bool false), Sp.eq (.bool false), Sp.eq (.pointer (some ⟨pb, 0, none⟩)), Sp.eq (.pointer (some ⟨wr.heap.size, 1, none⟩)), Sp.eq (.int .i64 q.p), Sp.eq (.bool (decide (q.p ∈ ((putP p (cut8 q.m)).1).row))), Sp.eq (.agg #[.int .i64 ((putP p (cut8 q.m)).1.hold), .slice al1 nl1 cl1, .slice aw1 nw1 cw1]), Sp.eq (.pointer (some ⟨wr.heap.size, 1, none⟩)), Sp.eq (.int .i64 q.p), Sp.eq (.bool (decide (q.p ∈ ((putP p (cut8 q.m)).1).row))), Sp.eq (.bool false), Sp.eq (.bool false)] hF (fun _ _ _ _ _ h => h) (by kernel_rfl) (by kernel_rfl) ⟨?_, ?_, ?_, ?_, ?_, ?_, ?_, ?_, ?_, ?_, ?_, ?_, ?_, ?_, ?_, ?_, ?_, ?_, ?_, ?_, ?_, ?_, ?_, ?_, ?_, ?_, ?_, ?_, ?_, ?_, ?_, ?_, ?_, ?_, ?_, ?_, ?_, trivial⟩ ?_  -- R39
        · intro ac gs u hbO hgO hO
          refine opFree rfl ?_
          exact relRun (v := .bool true) (w' := u) (by exact E.xMv rfl ((hO.inm 9 rfl (hF.ev 9 _ rfl)))) (okP hgO rfl)
        · intro ac gs u hbO hgO hO
          refine opFree rfl ?_
          exact relRun (v := .bool false) (w' := u) (by have e174 : ac.tmps[174]?.getD undef = .bool true := (show ac.tmps[174]?.getD undef = .bool true from hO.tm 0 174 rfl rfl); simp [go_sem, e174]) (okP hgO rfl)
        · intro ac gs u hbO hgO hO
          refine opFree rfl ?_
          exact relRun (v := .bool false) (w' := u) (by exact E.xMv rfl ((show ac.tmps[175]?.getD undef = .bool false from hO.tm 1 175 rfl rfl))) (okP hgO rfl)
        · intro ac gs u hbO hgO hO
          refine opWant 2 176 rfl rfl ((show ac.tmps[176]?.getD undef = .bool false from hO.tm 2 176 rfl rfl)) ?_
          exact relRun (v := .pointer (some ⟨pb, 0, none⟩)) (w' := u) (by exact E.xMv rfl ((hO.inm 5 rfl (hF.ev 5 _ rfl)))) (okP hgO rfl)
        · intro ac gs u hbO hgO hO
          refine opWant 2 176 rfl rfl ((show ac.tmps[176]?.getD undef = .bool false from hO.tm 2 176 rfl rfl)) ?_
          refine relCall (f := 18) (args := #[.pointer (some ⟨pb, 0, none⟩)]) (by have e177 : ac.tmps[177]?.getD undef = .pointer (some ⟨pb, 0, none⟩) := (show ac.tmps[177]?.getD undef = .pointer (some ⟨pb, 0, none⟩) from hO.tm 3 177 rfl rfl); simp [go_sem, e177]) ?_
          refine Calls.mono (len_x (hP.below hbO)) ?_
          rintro e u' ⟨rfl, rfl⟩
          exact ⟨_, rfl, okP hgO rfl⟩
        · intro ac gs u hbO hgO hO
          refine opWant 2 176 rfl rfl ((show ac.tmps[176]?.getD undef = .bool false from hO.tm 2 176 rfl rfl)) ?_
          exact relRun (v := .pointer (some ⟨w8.heap.size, 1, none⟩)) (w' := u) (by have e6 : ac.tmps[6]?.getD undef = .pointer (some ⟨w8.heap.size, 0, none⟩) := (hO.inm 6 rfl (hF.ev 6 _ rfl)); simp [go_sem, e6]) (okP hgO rfl)
        · intro ac gs u hbO hgO hO
          refine opWant 2 176 rfl rfl ((show ac.tmps[176]?.getD undef = .bool false from hO.tm 2 176 rfl rfl)) ?_
          exact relRun (v := .slice al1 nl1 cl1) (w' := u) (by have c1 : u.cell? ⟨w8.heap.size, 1, none⟩ = some (.slice al1 nl1 cl1) := (p6.below hbO).cell 1; have e179 : ac.tmps[179]?.getD undef = .pointer (some ⟨w8.heap.size, 1, none⟩) := (show ac.tmps[179]?.getD undef = .pointer (some ⟨w8.heap.size, 1, none⟩) from hO.tm 5 179 rfl rfl); simp [go_sem, e179, c1]) (okP hgO rfl)
        · intro ac gs u hbO hgO hO
          refine opWant 2 176 rfl rfl ((show ac.tmps[176]?.getD undef = .bool false from hO.tm 2 176 rfl rfl)) ?_
          exact relRun (v := .int .i64 (nl1 : Int)) (w' := u) (by have e180 : ac.tmps[180]?.getD undef = .slice al1 nl1 cl1 := (show ac.tmps[180]?.getD undef = .slice al1 nl1 cl1 from hO.tm 6 180 rfl rfl); simp [go_sem, e180]) (okP hgO rfl)
        · intro ac gs u hbO hgO hO
          refine opWant 2 176 rfl rfl ((show ac.tmps[176]?.getD undef = .bool false from hO.tm 2 176 rfl rfl)) ?_
          exact relRun (v := .bool (!((((putP p (cut8 q.m)).1).ms.length : Int) == (nl1 : Int)))) (w' := u) (by have e178 : ac.tmps[178]?.getD undef = .int .i64 (((putP p (cut8 q.m)).1).ms.length : Int) := (show ac.tmps[178]?.getD undef = .int .i64 (((putP p (cut8 q.m)).1).ms.length : Int) from hO.tm 4 178 rfl rfl); have e181 : ac.tmps[181]?.getD undef = .int .i64 (nl1 : Int) := (show ac.tmps[181]?.getD undef = .int .i64 (nl1 : Int) from hO.tm 7 181 rfl rfl); simp [go_sem, e178, e181, bne]) (okP hgO rfl)
        · intro ac gs u hbO hgO hO
          refine opFree rfl ?_
          exact relRun (v := .bool (!((((putP p (cut8 q.m)).1).ms.length : Int) == (nl1 : Int)))) (w' := u) (by have e176 : ac.tmps[176]?.getD undef = .bool false := (show ac.tmps[176]?.getD undef = .bool false from hO.tm 2 176 rfl rfl); have e182 : ac.tmps[182]?.getD undef = .bool (!((((putP p (cut8 q.m)).1).ms.length : Int) == (nl1 : Int))) := (show ac.tmps[182]?.getD undef = .bool (!((((putP p (cut8 q.m)).1).ms.length : Int) == (nl1 : Int))) from hO.tm 8 182 rfl rfl); simp [go_sem, e176, e182]) (okP hgO rfl)
        · intro ac gs u hbO hgO hO
          refine opFree rfl ?_
          exact relRun (v := .bool (!((((putP p (cut8 q.m)).1).ms.length : Int) == (nl1 : Int)))) (w' := u) (by exact E.xMv rfl ((show ac.tmps[183]?.getD undef = .bool (!((((putP p (cut8 q.m)).1).ms.length : Int) == (nl1 : Int))) from hO.tm 9 183 rfl rfl))) (okP hgO rfl)
        · intro ac gs u hbO hgO hO
          refine opWant 10 184 rfl rfl ((((show ac.tmps[184]?.getD undef = .bool (!((((putP p (cut8 q.m)).1).ms.length : Int) == (nl1 : Int))) from hO.tm 10 184 rfl rfl)).trans (congrArg Value.bool hk39))) ?_
          exact relRun (v := .pointer (some ⟨pb, 0, none⟩)) (w' := u) (by exact E.xMv rfl ((hO.inm 5 rfl (hF.ev 5 _ rfl)))) (okP hgO rfl)
        · intro ac gs u hbO hgO hO
          refine opWant 10 184 rfl rfl ((((show ac.tmps[184]?.getD undef = .bool (!((((putP p (cut8 q.m)).1).ms.length : Int) == (nl1 : Int))) from hO.tm 10 184 rfl rfl)).trans (congrArg Value.bool hk39))) ?_
          refine relCall (f := 20) (args := #[.pointer (some ⟨pb, 0, none⟩)]) (by have e185 : ac.tmps[185]?.getD undef = .pointer (some ⟨pb, 0, none⟩) := (show ac.tmps[185]?.getD undef = .pointer (some ⟨pb, 0, none⟩) from hO.tm 11 185 rfl rfl); simp [go_sem, e185]) ?_
          refine Calls.mono (all_x (hP.below hbO)) ?_
          rintro e u' ⟨v, qA, rfl, hAq, hAm, hb52⟩
          obtain ⟨aA, cA, rfl⟩ := hAm.shape
          exact ⟨_, rfl, okB hgO hb52 ⟨_, _, _, rfl, hAm.mono (fun _ _ _ => trivial) (fun _ _ _ => trivial), hAq⟩⟩
        · intro ac gs u hbO hgO hO
          refine opWant 10 184 rfl rfl ((((show ac.tmps[184]?.getD undef = .bool (!((((putP p (cut8 q.m)).1).ms.length : Int) == (nl1 : Int))) from hO.tm 10 184 rfl rfl)).trans (congrArg Value.bool hk39))) ?_
          exact relRun (v := .pointer (some ⟨w8.heap.size, 1, none⟩)) (w' := u) (by have e6 : ac.tmps[6]?.getD undef = .pointer (some ⟨w8.heap.size, 0, none⟩) := (hO.inm 6 rfl (hF.ev 6 _ rfl)); simp [go_sem, e6]) (okP hgO rfl)
        · intro ac gs u hbO hgO hO
          refine opWant 10 184 rfl rfl ((((show ac.tmps[184]?.getD undef = .bool (!((((putP p (cut8 q.m)).1).ms.length : Int) == (nl1 : Int))) from hO.tm 10 184 rfl rfl)).trans (congrArg Value.bool hk39))) ?_
          exact relRun (v := .slice al1 nl1 cl1) (w' := u) (by have c1 : u.cell? ⟨w8.heap.size, 1, none⟩ = some (.slice al1 nl1 cl1) := (p6.below hbO).cell 1; have e187 : ac.tmps[187]?.getD undef = .pointer (some ⟨w8.heap.size, 1, none⟩) := (show ac.tmps[187]?.getD undef = .pointer (some ⟨w8.heap.size, 1, none⟩) from hO.tm 13 187 rfl rfl); simp [go_sem, e187, c1]) (okP hgO rfl)
        · intro ac gs u hbO hgO hO
          obtain ⟨aA, cA, qA, e_186, hAm, hAq⟩ := hO.tm 12 186 rfl rfl
          refine opWant 10 184 rfl rfl ((((show ac.tmps[184]?.getD undef = .bool (!((((putP p (cut8 q.m)).1).ms.length : Int) == (nl1 : Int))) from hO.tm 10 184 rfl rfl)).trans (congrArg Value.bool hk39))) ?_
          refine relCall (f := 22) (args := #[.slice aA qA.length cA, .slice al1 nl1 cl1]) (by have e186 : ac.tmps[186]?.getD undef = .slice aA qA.length cA := e_186; have e188 : ac.tmps[188]?.getD undef = .slice al1 nl1 cl1 := (show ac.tmps[188]?.getD undef = .slice al1 nl1 cl1 from hO.tm 14 188 rfl rfl); simp [go_sem, e186, e188]) ?_
          refine Calls.mono (same_ref hAm hAq (hR.below hbO)) ?_
          rintro e u' ⟨rfl, hb53⟩
          exact ⟨_, rfl, okB hgO hb53 rfl⟩
        · intro ac gs u hbO hgO hO
          refine opWant 10 184 rfl rfl ((((show ac.tmps[184]?.getD undef = .bool (!((((putP p (cut8 q.m)).1).ms.length : Int) == (nl1 : Int))) from hO.tm 10 184 rfl rfl)).trans (congrArg Value.bool hk39))) ?_
          exact relRun (v := .bool false) (w' := u) (by have e189 : ac.tmps[189]?.getD undef = .bool true := (show ac.tmps[189]?.getD undef = .bool true from hO.tm 15 189 rfl rfl); simp [go_sem, e189]) (okP hgO rfl)
        · intro ac gs u hbO hgO hO
          refine opFree rfl ?_
          exact relRun (v := .bool false) (w' := u) (by have e184 : ac.tmps[184]?.getD undef = .bool (!((((putP p (cut8 q.m)).1).ms.length : Int) == (nl1 : Int))) := (show ac.tmps[184]?.getD undef = .bool (!((((putP p (cut8 q.m)).1).ms.length : Int) == (nl1 : Int))) from hO.tm 10 184 rfl rfl); have e190 : ac.tmps[190]?.getD undef = .bool false := (show ac.tmps[190]?.getD undef = .bool false from hO.tm 16 190 rfl rfl); simp [go_sem, e184, e190, hk39]) (okP hgO rfl)
        · intro ac gs u hbO hgO hO
          refine opFree rfl ?_
          exact relRun (v := .bool false) (w' := u) (by exact E.xMv rfl ((show ac.tmps[191]?.getD undef = .bool false from hO.tm 17 191 rfl rfl))) (okP hgO rfl)
        · intro ac gs u hbO hgO hO
          refine opWant 18 192 rfl rfl ((show ac.tmps[192]?.getD undef = .bool false from hO.tm 18 192 rfl rfl)) ?_
          exact relRun (v := .pointer (some ⟨pb, 0, none⟩)) (w' := u) (by exact E.xMv rfl ((hO.inm 5 rfl (hF.ev 5 _ rfl)))) (okP hgO rfl)
        · intro ac gs u hbO hgO hO
          refine opWant 18 192 rfl rfl ((show ac.tmps[192]?.getD undef = .bool false from hO.tm 18 192 rfl rfl)) ?_
          refine relCall (f := 11) (args := #[.pointer (some ⟨pb, 0, none⟩)]) (by have e193 : ac.tmps[193]?.getD undef = .pointer (some ⟨pb, 0, none⟩) := (show ac.tmps[193]?.getD undef = .pointer (some ⟨pb, 0, none⟩) from hO.tm 19 193 rfl rfl); simp [go_sem, e193]) ?_
          refine Calls.mono (waiting_x (hP.below hbO) (by omega)) ?_
          rintro e u' ⟨v, rfl, hX, hb54⟩
          obtain ⟨aX, cX, rfl⟩ := hX.shape
          exact ⟨_, rfl, okB hgO hb54 ⟨_, _, rfl, hX.mono (fun _ _ _ => trivial)⟩⟩
        · intro ac gs u hbO hgO hO
          refine opWant 18 192 rfl rfl ((show ac.tmps[192]?.getD undef = .bool false from hO.tm 18 192 rfl rfl)) ?_
          exact relRun (v := .agg #[.int .i64 ((putP p (cut8 q.m)).1.hold), .slice al1 nl1 cl1, .slice aw1 nw1 cw1]) (w' := u) (by exact xLoad rfl ((hO.inm 6 rfl (hF.ev 6 _ rfl))) (p6.below hbO) Try.underlying56 rfl (by kernel_rfl)) (okP hgO rfl)
        · intro ac gs u hbO hgO hO
          refine opWant 18 192 rfl rfl ((show ac.tmps[192]?.getD undef = .bool false from hO.tm 18 192 rfl rfl)) ?_
          refine relCall (f := 30) (args := #[.agg #[.int .i64 ((putP p (cut8 q.m)).1.hold), .slice al1 nl1 cl1, .slice aw1 nw1 cw1]]) (by have e195 : ac.tmps[195]?.getD undef = .agg #[.int .i64 ((putP p (cut8 q.m)).1.hold), .slice al1 nl1 cl1, .slice aw1 nw1 cw1] := (show ac.tmps[195]?.getD undef = .agg #[.int .i64 ((putP p (cut8 q.m)).1.hold), .slice al1 nl1 cl1, .slice aw1 nw1 cw1] from hO.tm 21 195 rfl rfl); simp [go_sem, e195]) ?_
          refine Calls.mono (waiting_p (hR.below hbO) _ (by omega)) ?_
          rintro e u' ⟨v, rfl, hY, hb55⟩
          obtain ⟨aY, cY, rfl⟩ := hY.shape
          exact ⟨_, rfl, okB hgO hb55 ⟨_, _, rfl, hY.mono (fun _ _ _ => trivial)⟩⟩
        · intro ac gs u hbO hgO hO
          obtain ⟨aX, cX, e_194, hX⟩ := hO.tm 20 194 rfl rfl
          obtain ⟨aY, cY, e_196, hY⟩ := hO.tm 22 196 rfl rfl
          refine opWant 18 192 rfl rfl ((show ac.tmps[192]?.getD undef = .bool false from hO.tm 18 192 rfl rfl)) ?_
          refine relCall (f := 23) (args := #[.slice aX (((putP p (cut8 q.m)).1).row.length) cX, .slice aY (((putP p (cut8 q.m)).1).row.length) cY]) (by have e194 : ac.tmps[194]?.getD undef = .slice aX (((putP p (cut8 q.m)).1).row.length) cX := e_194; have e196 : ac.tmps[196]?.getD undef = .slice aY (((putP p (cut8 q.m)).1).row.length) cY := e_196; simp [go_sem, e194, e196]) ?_
          refine Calls.mono (ints_same hX hY) ?_
          rintro e u' ⟨rfl, hb56⟩
          exact ⟨_, rfl, okB hgO hb56 rfl⟩
        · intro ac gs u hbO hgO hO
          refine opWant 18 192 rfl rfl ((show ac.tmps[192]?.getD undef = .bool false from hO.tm 18 192 rfl rfl)) ?_
          exact relRun (v := .bool false) (w' := u) (by have e197 : ac.tmps[197]?.getD undef = .bool true := (show ac.tmps[197]?.getD undef = .bool true from hO.tm 23 197 rfl rfl); simp [go_sem, e197]) (okP hgO rfl)
        · intro ac gs u hbO hgO hO
          refine opFree rfl ?_
          exact relRun (v := .bool false) (w' := u) (by have e192 : ac.tmps[192]?.getD undef = .bool false := (show ac.tmps[192]?.getD undef = .bool false from hO.tm 18 192 rfl rfl); have e198 : ac.tmps[198]?.getD undef = .bool false := (show ac.tmps[198]?.getD undef = .bool false from hO.tm 24 198 rfl rfl); simp [go_sem, e192, e198]) (okP hgO rfl)
        · intro ac gs u hbO hgO hO
          refine opFree rfl ?_
          exact relRun (v := .bool false) (w' := u) (by exact E.xMv rfl ((show ac.tmps[199]?.getD undef = .bool false from hO.tm 25 199 rfl rfl))) (okP hgO rfl)
        · intro ac gs u hbO hgO hO
          refine opWant 26 200 rfl rfl ((show ac.tmps[200]?.getD undef = .bool false from hO.tm 26 200 rfl rfl)) ?_
          exact relRun (v := .pointer (some ⟨pb, 0, none⟩)) (w' := u) (by exact E.xMv rfl ((hO.inm 5 rfl (hF.ev 5 _ rfl)))) (okP hgO rfl)
        · intro ac gs u hbO hgO hO
          refine opWant 26 200 rfl rfl ((show ac.tmps[200]?.getD undef = .bool false from hO.tm 26 200 rfl rfl)) ?_
          exact relRun (v := .pointer (some ⟨wr.heap.size, 1, none⟩)) (w' := u) (by have e8 : ac.tmps[8]?.getD undef = .pointer (some ⟨wr.heap.size, 0, none⟩) := (hO.inm 8 rfl (hF.ev 8 _ rfl)); simp [go_sem, e8]) (okP hgO rfl)
        · intro ac gs u hbO hgO hO
          refine opWant 26 200 rfl rfl ((show ac.tmps[200]?.getD undef = .bool false from hO.tm 26 200 rfl rfl)) ?_
          exact relRun (v := .int .i64 q.p) (w' := u) (by have c1 : u.cell? ⟨wr.heap.size, 1, none⟩ = some (.int .i64 q.p) := (p8.below hbO).cell 1; have e202 : ac.tmps[202]?.getD undef = .pointer (some ⟨wr.heap.size, 1, none⟩) := (show ac.tmps[202]?.getD undef = .pointer (some ⟨wr.heap.size, 1, none⟩) from hO.tm 28 202 rfl rfl); simp [go_sem, e202, c1]) (okP hgO rfl)
        · intro ac gs u hbO hgO hO
          refine opWant 26 200 rfl rfl ((show ac.tmps[200]?.getD undef = .bool false from hO.tm 26 200 rfl rfl)) ?_
          refine relCall (f := 19) (args := #[.pointer (some ⟨pb, 0, none⟩), .int .i64 q.p]) (by have e201 : ac.tmps[201]?.getD undef = .pointer (some ⟨pb, 0, none⟩) := (show ac.tmps[201]?.getD undef = .pointer (some ⟨pb, 0, none⟩) from hO.tm 27 201 rfl rfl); have e203 : ac.tmps[203]?.getD undef = .int .i64 q.p := (show ac.tmps[203]?.getD undef = .int .i64 q.p from hO.tm 29 203 rfl rfl); simp [go_sem, e201, e203]) ?_
          refine Calls.mono (waits_x (hP.below hbO) _) ?_
          rintro e u' ⟨rfl, rfl⟩
          exact ⟨_, rfl, okP hgO rfl⟩
        · intro ac gs u hbO hgO hO
          refine opWant 26 200 rfl rfl ((show ac.tmps[200]?.getD undef = .bool false from hO.tm 26 200 rfl rfl)) ?_
          exact relRun (v := .agg #[.int .i64 ((putP p (cut8 q.m)).1.hold), .slice al1 nl1 cl1, .slice aw1 nw1 cw1]) (w' := u) (by exact xLoad rfl ((hO.inm 6 rfl (hF.ev 6 _ rfl))) (p6.below hbO) Try.underlying56 rfl (by kernel_rfl)) (okP hgO rfl)
        · intro ac gs u hbO hgO hO
          refine opWant 26 200 rfl rfl ((show ac.tmps[200]?.getD undef = .bool false from hO.tm 26 200 rfl rfl)) ?_
          exact relRun (v := .pointer (some ⟨wr.heap.size, 1, none⟩)) (w' := u) (by have e8 : ac.tmps[8]?.getD undef = .pointer (some ⟨wr.heap.size, 0, none⟩) := (hO.inm 8 rfl (hF.ev 8 _ rfl)); simp [go_sem, e8]) (okP hgO rfl)
        · intro ac gs u hbO hgO hO
          refine opWant 26 200 rfl rfl ((show ac.tmps[200]?.getD undef = .bool false from hO.tm 26 200 rfl rfl)) ?_
          exact relRun (v := .int .i64 q.p) (w' := u) (by have c1 : u.cell? ⟨wr.heap.size, 1, none⟩ = some (.int .i64 q.p) := (p8.below hbO).cell 1; have e206 : ac.tmps[206]?.getD undef = .pointer (some ⟨wr.heap.size, 1, none⟩) := (show ac.tmps[206]?.getD undef = .pointer (some ⟨wr.heap.size, 1, none⟩) from hO.tm 32 206 rfl rfl); simp [go_sem, e206, c1]) (okP hgO rfl)
        · intro ac gs u hbO hgO hO
          refine opWant 26 200 rfl rfl ((show ac.tmps[200]?.getD undef = .bool false from hO.tm 26 200 rfl rfl)) ?_
          refine relCall (f := 31) (args := #[.agg #[.int .i64 ((putP p (cut8 q.m)).1.hold), .slice al1 nl1 cl1, .slice aw1 nw1 cw1], .int .i64 q.p]) (by have e205 : ac.tmps[205]?.getD undef = .agg #[.int .i64 ((putP p (cut8 q.m)).1.hold), .slice al1 nl1 cl1, .slice aw1 nw1 cw1] := (show ac.tmps[205]?.getD undef = .agg #[.int .i64 ((putP p (cut8 q.m)).1.hold), .slice al1 nl1 cl1, .slice aw1 nw1 cw1] from hO.tm 31 205 rfl rfl); have e207 : ac.tmps[207]?.getD undef = .int .i64 q.p := (show ac.tmps[207]?.getD undef = .int .i64 q.p from hO.tm 33 207 rfl rfl); simp [go_sem, e205, e207]) ?_
          refine Calls.mono (waits_p (hR.below hbO) _ _) ?_
          rintro e u' ⟨rfl, hb57⟩
          exact ⟨_, rfl, okB hgO hb57 rfl⟩
        · intro ac gs u hbO hgO hO
          refine opWant 26 200 rfl rfl ((show ac.tmps[200]?.getD undef = .bool false from hO.tm 26 200 rfl rfl)) ?_
          exact relRun (v := .bool false) (w' := u) (by have e204 : ac.tmps[204]?.getD undef = .bool (decide (q.p ∈ ((putP p (cut8 q.m)).1).row)) := (show ac.tmps[204]?.getD undef = .bool (decide (q.p ∈ ((putP p (cut8 q.m)).1).row)) from hO.tm 30 204 rfl rfl); have e208 : ac.tmps[208]?.getD undef = .bool (decide (q.p ∈ ((putP p (cut8 q.m)).1).row)) := (show ac.tmps[208]?.getD undef = .bool (decide (q.p ∈ ((putP p (cut8 q.m)).1).row)) from hO.tm 34 208 rfl rfl); simp [go_sem, e204, e208]) (okP hgO rfl)
        · intro ac gs u hbO hgO hO
          refine opFree rfl ?_
          exact relRun (v := .bool false) (w' := u) (by have e200 : ac.tmps[200]?.getD undef = .bool false := (show ac.tmps[200]?.getD undef = .bool false from hO.tm 26 200 rfl rfl); have e209 : ac.tmps[209]?.getD undef = .bool false := (show ac.tmps[209]?.getD undef = .bool false from hO.tm 35 209 rfl rfl); simp [go_sem, e200, e209]) (okP hgO rfl)
        intro vs gs w58 hb59 hgO hrO
        have r0 : vs 0 = .bool true := hrO 0 (by decide)
        have r1 : vs 1 = .bool false := hrO 1 (by decide)
        have r2 : vs 2 = .bool false := hrO 2 (by decide)
        have r3 : vs 3 = .pointer (some ⟨pb, 0, none⟩) := hrO 3 (by decide)
        have r4 : vs 4 = .int .i64 (((putP p (cut8 q.m)).1).ms.length : Int) := hrO 4 (by decide)
        have r5 : vs 5 = .pointer (some ⟨w8.heap.size, 1, none⟩) := hrO 5 (by decide)
        have r6 : vs 6 = .slice al1 nl1 cl1 := hrO 6 (by decide)
        have r7 : vs 7 = .int .i64 (nl1 : Int) := hrO 7 (by decide)
        have r8 : vs 8 = .bool (!((((putP p (cut8 q.m)).1).ms.length : Int) == (nl1 : Int))) := hrO 8 (by decide)
        have r9 : vs 9 = .bool (!((((putP p (cut8 q.m)).1).ms.length : Int) == (nl1 : Int))) := hrO 9 (by decide)
        have r10 : vs 10 = .bool (!((((putP p (cut8 q.m)).1).ms.length : Int) == (nl1 : Int))) := hrO 10 (by decide)
        have r11 : vs 11 = .pointer (some ⟨pb, 0, none⟩) := hrO 11 (by decide)
        have r13 : vs 13 = .pointer (some ⟨w8.heap.size, 1, none⟩) := hrO 13 (by decide)
        have r14 : vs 14 = .slice al1 nl1 cl1 := hrO 14 (by decide)
        have r15 : vs 15 = .bool true := hrO 15 (by decide)
        have r16 : vs 16 = .bool false := hrO 16 (by decide)
        have r17 : vs 17 = .bool false := hrO 17 (by decide)
        have r18 : vs 18 = .bool false := hrO 18 (by decide)
        have r19 : vs 19 = .pointer (some ⟨pb, 0, none⟩) := hrO 19 (by decide)
        have r21 : vs 21 = .agg #[.int .i64 ((putP p (cut8 q.m)).1.hold), .slice al1 nl1 cl1, .slice aw1 nw1 cw1] := hrO 21 (by decide)
        have r23 : vs 23 = .bool true := hrO 23 (by decide)
        have r24 : vs 24 = .bool false := hrO 24 (by decide)
        have r25 : vs 25 = .bool false := hrO 25 (by decide)
        have r26 : vs 26 = .bool false := hrO 26 (by decide)
        have r27 : vs 27 = .pointer (some ⟨pb, 0, none⟩) := hrO 27 (by decide)
        have r28 : vs 28 = .pointer (some ⟨wr.heap.size, 1, none⟩) := hrO 28 (by decide)
        have r29 : vs 29 = .int .i64 q.p := hrO 29 (by decide)
        have r30 : vs 30 = .bool (decide (q.p ∈ ((putP p (cut8 q.m)).1).row)) := hrO 30 (by decide)
        have r31 : vs 31 = .agg #[.int .i64 ((putP p (cut8 q.m)).1.hold), .slice al1 nl1 cl1, .slice aw1 nw1 cw1] := hrO 31 (by decide)
        have r32 : vs 32 = .pointer (some ⟨wr.heap.size, 1, none⟩) := hrO 32 (by decide)
        have r33 : vs 33 = .int .i64 q.p := hrO 33 (by decide)
        have r34 : vs 34 = .bool (decide (q.p ∈ ((putP p (cut8 q.m)).1).row)) := hrO 34 (by decide)
        have r35 : vs 35 = .bool false := hrO 35 (by decide)
        have r36 : vs 36 = .bool false := hrO 36 (by decide)
        intro a hF'; clear hF hrO; have hF := hF'; clear hF'
        simp only [List.take_succ_cons, List.take_zero, E.putsM, r0, r1, r2, r3, r4, r5, r6, r7, r8, r9, r10, r11, r13, r14, r15, r16, r17, r18, r19, r21, r23, r24, r25, r26, r27, r28, r29, r30, r31, r32, r33, r34, r35, r36] at hF
        clear r0 r1 r2 r3 r4 r5 r6 r7 r8 r9 r10 r11 r13 r14 r15 r16 r17 r18 r19 r21 r23 r24 r25 r26 r27 r28 r29 r30 r31 r32 r33 r34 r35 r36
        replace hP := hP.below hb59
        replace p6 := p6.below hb59
        replace hR := hR.below hb59
        replace p8 := p8.below hb59
        replace hC := hC.below hb59
        have z60 : w50.heap.size ≤ w58.heap.size := hb59.size
        clear hb59 hgO
        simp only [List.drop_succ_cons, List.drop_zero]
        refine wpList_nil ?_
        replace hF := hF.sub (m' := [(210, .bool false), (7, .int .i64 (i : Int)), (1, .slice a3 ys.length c3), (5, .pointer (some ⟨pb, 0, none⟩)), (6, .pointer (some ⟨w8.heap.size, 0, none⟩))]) ⟨rfl, rfl, rfl, rfl, rfl, trivial⟩
        refine E.then_norm (hK20 _ _ ?_)
        refine E.condF rfl (hF.at 210 rfl) ?_
        refine wp_skip ?_
        refine E.in_norm ?_
        refine E.then_norm (hK10 _ _ ?_)
        refine wp_region_lit ?_  -- R7
        refine E.val (d := 40) (v := .int .i64 (i : Int)) (w' := w58) rfl rfl rfl hF (by exact E.xMv rfl (hF.at 7 rfl)) ?_
        clear hF a; intro a hF
        refine E.val (d := 41) (v := .int .i64 ((i : Int) + 1)) (w' := w58) rfl rfl rfl hF (by have hr : IntKind.i64.wrap ((i : Int) + 1) = (i : Int) + 1 := E.wrapI (by omega) (by omega); have e40 : a.tmps[40]?.getD undef = .int .i64 (i : Int) := hF.at 40 rfl; simp [go_sem, e40, hr]) ?_
        clear hF a; intro a hF
        refine E.val (d := 7) (v := .int .i64 ((i : Int) + 1)) (w' := w58) rfl rfl rfl hF (by exact E.xAs rfl (hF.at 41 rfl)) ?_
        clear hF a; intro a hF
        refine wpList_nil ?_
        refine E.then_norm ?_
        replace hR := hR.mono (okr' := (fun x => (w15.heap.size ≤ x) ∧ (¬ M1 x))) (okb' := (fun x => x < w.heap.size)) (fun x hx hl => by obtain ⟨hx0, hx1, hx2, hx3⟩ := hx; exact ⟨hx0, hx1⟩) (fun _ h _ => h)
        exact ⟨_, by omega, i + 1, al1, nl1, cl1, aw1, nw1, cw1, (putP p (cut8 q.m)).1, M1, (newW W_hP M1 w48 w50), rfl, hF.sub (by exact ⟨rfl, rfl, rfl, rfl, trivial⟩), hC, by omega, hP, p6, hR, by omega, by have := h1.2.1; omega, by have := h1.2.2; omega, hge, nb13⟩
      ·
        have hK3 := of_decide_eq_false hc33
        refine E.condF rfl (((hF.at 48 rfl).trans (congrArg Value.bool hc33))) ?_
        refine E.seqJ (fun a w' => w28 = w' ∧ E.Fr 211 [(83, .bool (decide (K < 6))), (47, .int .i64 K), (9, .bool true), (8, .pointer (some ⟨wr.heap.size, 0, none⟩)), (7, .int .i64 (i : Int)), (1, .slice a3 ys.length c3), (5, .pointer (some ⟨pb, 0, none⟩)), (6, .pointer (some ⟨w8.heap.size, 0, none⟩))] a) ?_ ?_
        ·
          refine wp_seq_k fun K21 hK21 => ?_
          refine wp_region_lit ?_  -- R18
          refine E.val (d := 84) (v := .bool (K == 3)) (w' := w28) rfl rfl rfl hF (by have e47 : a.tmps[47]?.getD undef = .int .i64 K := hF.at 47 rfl; simp [go_sem, e47]) ?_
          clear hF a; intro a hF
          refine E.val (d := 83) (v := .bool (K == 3)) (w' := w28) rfl rfl rfl hF (by exact E.xAs rfl (hF.at 84 rfl)) ?_
          clear hF a; intro a hF
          refine wpList_nil ?_
          refine E.then_norm (hK21 _ _ ?_)
          rcases E.bsplit (K == 3) with hc61 | hc61
          ·
            refine E.condT rfl (((hF.at 83 rfl).trans (congrArg Value.bool hc61))) ?_
            refine wp_skip ?_
            have hj : (decide (K < 6)) = true := decide_eq_true (by have hq0 := hc61; simp at hq0; omega)
            refine E.then_norm ⟨rfl, ?_⟩; rw [hj]
            have hF := hF; rw [hc61] at hF
            exact hF.sub (by exact ⟨rfl, rfl, rfl, rfl, rfl, rfl, rfl, rfl, trivial⟩)
          ·
            refine E.condF rfl (((hF.at 83 rfl).trans (congrArg Value.bool hc61))) ?_
            refine wp_seq_k fun K22 hK22 => ?_
            refine wp_region_lit ?_  -- R19
            refine E.val (d := 85) (v := .bool (K == 4)) (w' := w28) rfl rfl rfl hF (by have e47 : a.tmps[47]?.getD undef = .int .i64 K := hF.at 47 rfl; simp [go_sem, e47]) ?_
            clear hF a; intro a hF
            refine E.val (d := 83) (v := .bool (K == 4)) (w' := w28) rfl rfl rfl hF (by exact E.xAs rfl (hF.at 85 rfl)) ?_
            clear hF a; intro a hF
            refine wpList_nil ?_
            refine E.then_norm (hK22 _ _ ?_)
            rcases E.bsplit (K == 4) with hc62 | hc62
            ·
              refine E.condT rfl (((hF.at 83 rfl).trans (congrArg Value.bool hc62))) ?_
              refine wp_skip ?_
              have hj : (decide (K < 6)) = true := decide_eq_true (by have hq0 := hc61; simp at hq0; have hq1 := hc62; simp at hq1; omega)
              refine E.then_norm ⟨rfl, ?_⟩; rw [hj]
              have hF := hF; rw [hc62] at hF
              exact hF.sub (by exact ⟨rfl, rfl, rfl, rfl, rfl, rfl, rfl, rfl, trivial⟩)
            ·
              refine E.condF rfl (((hF.at 83 rfl).trans (congrArg Value.bool hc62))) ?_
              refine wp_region_lit ?_  -- R20
              refine E.val (d := 86) (v := .bool (K == 5)) (w' := w28) rfl rfl rfl hF (by have e47 : a.tmps[47]?.getD undef = .int .i64 K := hF.at 47 rfl; simp [go_sem, e47]) ?_
              clear hF a; intro a hF
              refine E.val (d := 83) (v := .bool (K == 5)) (w' := w28) rfl rfl rfl hF (by exact E.xAs rfl (hF.at 86 rfl)) ?_
              clear hF a; intro a hF
              refine wpList_nil ?_
              rcases E.bsplit (K == 5) with hc63 | hc63
              ·
                have hj : (decide (K < 6)) = true := decide_eq_true (by have hq0 := hc61; simp at hq0; have hq1 := hc62; simp at hq1; have hq2 := hc63; simp at hq2; omega)
                refine E.then_norm ⟨rfl, ?_⟩; rw [hj]
                have hF := hF; rw [hc63] at hF
                exact hF.sub (by exact ⟨rfl, rfl, rfl, rfl, rfl, rfl, rfl, rfl, trivial⟩)
              ·
                have hj : (decide (K < 6)) = false := decide_eq_false (by have hq0 := hc61; simp at hq0; have hq1 := hc62; simp at hq1; have hq2 := hc63; simp at hq2; omega)
                refine E.then_norm ⟨rfl, ?_⟩; rw [hj]
                have hF := hF; rw [hc63] at hF
                exact hF.sub (by exact ⟨rfl, rfl, rfl, rfl, rfl, rfl, rfl, rfl, trivial⟩)
        ·
          clear hF a; rintro a _ ⟨rfl, hF⟩
          rcases E.bsplit (decide (K < 6)) with hc64 | hc64
          ·
            have hK6 := of_decide_eq_true hc64
            refine E.condT rfl (((hF.at 83 rfl).trans (congrArg Value.bool hc64))) ?_
            refine wp_seq_k fun K23 hK23 => ?_
            have hPlt := hP.lt
            refine wp_region_lit ?_  -- R21
            refine E.val (d := 88) (v := .agg #[.int .i64 p.hold, .slice al nl cl, .slice aw nw cw]) (w' := w28) rfl rfl rfl hF (by exact xLoad rfl (hF.at 6 rfl) p6 Try.underlying56 rfl (by kernel_rfl)) ?_
            clear hF a; intro a hF
            refine E.val (d := 89) (v := .pointer (some ⟨wr.heap.size, 1, none⟩)) (w' := w28) rfl rfl rfl hF (by have e8 : a.tmps[8]?.getD undef = .pointer (some ⟨wr.heap.size, 0, none⟩) := hF.at 8 rfl; simp [go_sem, e8]) ?_
            clear hF a; intro a hF
            refine E.val (d := 90) (v := .int .i64 q.p) (w' := w28) rfl rfl rfl hF (by have c1 : w28.cell? ⟨wr.heap.size, 1, none⟩ = some (.int .i64 q.p) := p8.cell 1; have e89 : a.tmps[89]?.getD undef = .pointer (some ⟨wr.heap.size, 1, none⟩) := hF.at 89 rfl; simp [go_sem, e89, c1]) ?_
            clear hF a; intro a hF
            refine E.val (d := 91) (v := .pointer (some ⟨wr.heap.size, 2, none⟩)) (w' := w28) rfl rfl rfl hF (by have e8 : a.tmps[8]?.getD undef = .pointer (some ⟨wr.heap.size, 0, none⟩) := hF.at 8 rfl; simp [go_sem, e8]) ?_
            clear hF a; intro a hF
            refine E.val (d := 92) (v := .int .i64 q.u) (w' := w28) rfl rfl rfl hF (by have c2 : w28.cell? ⟨wr.heap.size, 2, none⟩ = some (.int .i64 q.u) := p8.cell 2; have e91 : a.tmps[91]?.getD undef = .pointer (some ⟨wr.heap.size, 2, none⟩) := hF.at 91 rfl; simp [go_sem, e91, c2]) ?_
            clear hF a; intro a hF
            refine E.val (d := 93) (v := .pointer (some ⟨wr.heap.size, 3, none⟩)) (w' := w28) rfl rfl rfl hF (by have e8 : a.tmps[8]?.getD undef = .pointer (some ⟨wr.heap.size, 0, none⟩) := hF.at 8 rfl; simp [go_sem, e8]) ?_
            clear hF a; intro a hF
            refine E.val (d := 94) (v := .int .i64 q.n) (w' := w28) rfl rfl rfl hF (by have c3 : w28.cell? ⟨wr.heap.size, 3, none⟩ = some (.int .i64 q.n) := p8.cell 3; have e93 : a.tmps[93]?.getD undef = .pointer (some ⟨wr.heap.size, 3, none⟩) := hF.at 93 rfl; simp [go_sem, e93, c3]) ?_
            clear hF a; intro a hF
            refine E.call (f := 27) (xs := #[.agg #[.int .i64 p.hold, .slice al nl cl, .slice aw nw cw], .int .i64 q.p, .int .i64 q.u, .int .i64 q.n]) rfl rfl rfl hF (by have e88 : a.tmps[88]?.getD undef = .agg #[.int .i64 p.hold, .slice al nl cl, .slice aw nw cw] := hF.at 88 rfl; have e90 : a.tmps[90]?.getD undef = .int .i64 q.p := hF.at 90 rfl; have e92 : a.tmps[92]?.getD undef = .int .i64 q.u := hF.at 92 rfl; have e94 : a.tmps[94]?.getD undef = .int .i64 q.n := hF.at 94 rfl; simp [go_sem, e88, e90, e92, e94]) (ask_p hR (by omega) q.p q.u q.n) ?_
            rintro e w66 ⟨v, am, cm, rfl, ⟨al1, nl1, cl1, aw1, nw1, cw1, rfl, hR2⟩, hmw, hb65⟩
            refine ⟨_, rfl, ?_⟩
            clear hF a; intro a hF
            replace hP := hP.below hb65
            replace p6 := p6.below hb65
            replace hR := hR.below hb65
            replace p8 := p8.below hb65
            replace hC := hC.below hb65
            have z67 : w28.heap.size ≤ w66.heap.size := hb65.size
            clear hb65
            have hz : w28.heap.size ≤ w66.heap.size := by omega
            clear hR; have hR := hR2.mono (okr' := (fun x => (w15.heap.size ≤ x) ∧ (¬ M_hP x) ∧ (x ≠ wr.heap.size))) (okb' := (fun x => x < w.heap.size)) (fun x hx hl => by exact hx.elim (fun hx => by obtain ⟨hx0, hx1, hx2⟩ := hx; exact ⟨hx0, hx1, hx2⟩) (fun hx => ⟨by omega, fun hm => by have := hPlt x (.inl hm); omega, by omega⟩)) (fun _ h _ => h)
            clear hR2 hz
            refine E.val (d := 87) (v := .tuple #[.agg #[.int .i64 ((askP p q.p q.u q.n).1.hold), .slice al1 nl1 cl1, .slice aw1 nw1 cw1], .agg #[.slice am ((askP p q.p q.u q.n).2.1.words.length) cm, .int .i64 ((askP p q.p q.u q.n).2.1.lane), .int .i64 ((askP p q.p q.u q.n).2.1.stamp), .int .i64 ((askP p q.p q.u q.n).2.1.late), .int .i64 ((askP p q.p q.u q.n).2.1.seq)], .int .i64 ((askP p q.p q.u q.n).2.2)]) (w' := w66) rfl rfl rfl hF (by exact E.xMv rfl (hF.at 95 rfl)) ?_
            clear hF a; intro a hF
            refine E.val (d := 96) (v := .agg #[.int .i64 ((askP p q.p q.u q.n).1.hold), .slice al1 nl1 cl1, .slice aw1 nw1 cw1]) (w' := w66) rfl rfl rfl hF (by exact E.xExt (xs := [.agg #[.int .i64 ((askP p q.p q.u q.n).1.hold), .slice al1 nl1 cl1, .slice aw1 nw1 cw1], .agg #[.slice am ((askP p q.p q.u q.n).2.1.words.length) cm, .int .i64 ((askP p q.p q.u q.n).2.1.lane), .int .i64 ((askP p q.p q.u q.n).2.1.stamp), .int .i64 ((askP p q.p q.u q.n).2.1.late), .int .i64 ((askP p q.p q.u q.n).2.1.seq)], .int .i64 ((askP p q.p q.u q.n).2.2)]) rfl (hF.at 87 rfl) rfl) ?_
            clear hF a; intro a hF
            refine E.val (d := 97) (v := .agg #[.slice am ((askP p q.p q.u q.n).2.1.words.length) cm, .int .i64 ((askP p q.p q.u q.n).2.1.lane), .int .i64 ((askP p q.p q.u q.n).2.1.stamp), .int .i64 ((askP p q.p q.u q.n).2.1.late), .int .i64 ((askP p q.p q.u q.n).2.1.seq)]) (w' := w66) rfl rfl rfl hF (by exact E.xExt (xs := [.agg #[.int .i64 ((askP p q.p q.u q.n).1.hold), .slice al1 nl1 cl1, .slice aw1 nw1 cw1], .agg #[.slice am ((askP p q.p q.u q.n).2.1.words.length) cm, .int .i64 ((askP p q.p q.u q.n).2.1.lane), .int .i64 ((askP p q.p q.u q.n).2.1.stamp), .int .i64 ((askP p q.p q.u q.n).2.1.late), .int .i64 ((askP p q.p q.u q.n).2.1.seq)], .int .i64 ((askP p q.p q.u q.n).2.2)]) rfl (hF.at 87 rfl) rfl) ?_
            clear hF a; intro a hF
            refine E.val (d := 98) (v := .int .i64 ((askP p q.p q.u q.n).2.2)) (w' := w66) rfl rfl rfl hF (by exact E.xExt (xs := [.agg #[.int .i64 ((askP p q.p q.u q.n).1.hold), .slice al1 nl1 cl1, .slice aw1 nw1 cw1], .agg #[.slice am ((askP p q.p q.u q.n).2.1.words.length) cm, .int .i64 ((askP p q.p q.u q.n).2.1.lane), .int .i64 ((askP p q.p q.u q.n).2.1.stamp), .int .i64 ((askP p q.p q.u q.n).2.1.late), .int .i64 ((askP p q.p q.u q.n).2.1.seq)], .int .i64 ((askP p q.p q.u q.n).2.2)]) rfl (hF.at 87 rfl) rfl) ?_
            clear hF a; intro a hF
            refine E.val (d := 17) (v := .pointer (some ⟨w66.heap.size, 0, none⟩)) (w' := w66.alloc (.cells #[.int .i64 0, .slice none 0 0, .slice none 0 0] 56)) rfl rfl rfl hF (by simp [go_sem]) ?_
            clear hF a; intro a hF
            have hb68 := (Below.refl w66.heap.size w66).alloc (Nat.le_refl _) (.cells #[.int .i64 0, .slice none 0 0, .slice none 0 0] 56)
            have p17 : pts (w66.alloc (.cells #[.int .i64 0, .slice none 0 0, .slice none 0 0] 56)) (w66.heap.size) [.int .i64 0, .slice none 0 0, .slice none 0 0] 56 := pts.newA w66 #[.int .i64 0, .slice none 0 0, .slice none 0 0] 56
            have z69 : w66.heap.size < (w66.alloc (.cells #[.int .i64 0, .slice none 0 0, .slice none 0 0] 56)).heap.size := by simp
            have nb71 : ¬ M_hP (w66.heap.size) ∧ ¬ W_hP (w66.heap.size) := ⟨fun hm => by have := hP.lt (w66.heap.size) (.inl hm); omega, fun hm => by have := hP.lt (w66.heap.size) (.inr hm); omega⟩
            replace hR := hR.mono (okr' := (fun x => (w15.heap.size ≤ x) ∧ (¬ M_hP x) ∧ (x ≠ wr.heap.size) ∧ (x ≠ w66.heap.size))) (okb' := (fun x => x < w.heap.size)) (fun x hx hl => by obtain ⟨hx0, hx1, hx2⟩ := hx; exact ⟨hx0, hx1, hx2, (by omega)⟩) (fun _ h _ => h)
            replace hP := hP.below hb68
            replace p6 := p6.below hb68
            replace hR := hR.below hb68
            replace p8 := p8.below hb68
            replace hmw := hmw.below hb68
            replace hC := hC.below hb68
            clear hb68; generalize w66.alloc (.cells #[.int .i64 0, .slice none 0 0, .slice none 0 0] 56) = w70 at p17 z69 hC hP p6 hR p8 hmw ⊢
            refine E.val (d := 18) (v := .pointer (some ⟨w70.heap.size, 0, none⟩)) (w' := w70.alloc (.cells #[.slice none 0 0, .int .i64 0, .int .i64 0, .int .i64 0, .int .i64 0] 27)) rfl rfl rfl hF (by simp [go_sem]) ?_
            clear hF a; intro a hF
            have hb72 := (Below.refl w70.heap.size w70).alloc (Nat.le_refl _) (.cells #[.slice none 0 0, .int .i64 0, .int .i64 0, .int .i64 0, .int .i64 0] 27)
            have p18 : pts (w70.alloc (.cells #[.slice none 0 0, .int .i64 0, .int .i64 0, .int .i64 0, .int .i64 0] 27)) (w70.heap.size) [.slice none 0 0, .int .i64 0, .int .i64 0, .int .i64 0, .int .i64 0] 27 := pts.newA w70 #[.slice none 0 0, .int .i64 0, .int .i64 0, .int .i64 0, .int .i64 0] 27
            have z73 : w70.heap.size < (w70.alloc (.cells #[.slice none 0 0, .int .i64 0, .int .i64 0, .int .i64 0, .int .i64 0] 27)).heap.size := by simp
            have nb75 : ¬ M_hP (w70.heap.size) ∧ ¬ W_hP (w70.heap.size) := ⟨fun hm => by have := hP.lt (w70.heap.size) (.inl hm); omega, fun hm => by have := hP.lt (w70.heap.size) (.inr hm); omega⟩
            replace hR := hR.mono (okr' := (fun x => (w15.heap.size ≤ x) ∧ (¬ M_hP x) ∧ (x ≠ wr.heap.size) ∧ (x ≠ w66.heap.size) ∧ (x ≠ w70.heap.size))) (okb' := (fun x => x < w.heap.size)) (fun x hx hl => by obtain ⟨hx0, hx1, hx2, hx3⟩ := hx; exact ⟨hx0, hx1, hx2, hx3, (by omega)⟩) (fun _ h _ => h)
            replace hP := hP.below hb72
            replace p6 := p6.below hb72
            replace hR := hR.below hb72
            replace p8 := p8.below hb72
            replace hmw := hmw.below hb72
            replace p17 := p17.below hb72
            replace hC := hC.below hb72
            clear hb72; generalize w70.alloc (.cells #[.slice none 0 0, .int .i64 0, .int .i64 0, .int .i64 0, .int .i64 0] 27) = w74 at p18 z73 hC hP p6 hR p8 hmw p17 ⊢
            refine E.eff (w' := setN w74 (w66.heap.size) 0 [.int .i64 ((askP p q.p q.u q.n).1.hold), .slice al1 nl1 cl1, .slice aw1 nw1 cw1]) rfl rfl (by exact xStore rfl (hF.at 17 rfl) (hF.at 96 rfl) p17 rfl (by kernel_rfl) rfl) ?_
            have hc76 : Chg (fun x => x = w66.heap.size) w74 (setN w74 (w66.heap.size) 0 [.int .i64 ((askP p q.p q.u q.n).1.hold), .slice al1 nl1 cl1, .slice aw1 nw1 cw1]) := setN_own _ _ _ _
            have z78 := hc76.size
            replace hP := hP.chg hc76 (fun y hy => by have hy : y = w66.heap.size := hy; subst hy; exact nb71)
            replace p6 := p6.chg hc76 (fun e => by have e : w8.heap.size = w66.heap.size := e; omega)
            replace hR := hR.kept hc76.size (fun x hx hl => hc76.block x hl (fun hn => hx.elim (fun hx => by have hn : x = w66.heap.size := hn; obtain ⟨hx0, hx1, hx2, hx3, hx4⟩ := hx; omega) (fun hx => by (try dsimp only at hx); exact by have hn : x = w66.heap.size := hn; omega)))
            replace p8 := p8.chg hc76 (fun e => by have e : wr.heap.size = w66.heap.size := e; omega)
            replace hmw := hmw.kept hc76.size (fun x hx hl => hc76.block x hl (fun hn => by have hn : x = w66.heap.size := hn; (try dsimp only at hx); omega))
            replace p18 := p18.chg hc76 (fun e => by have e : w70.heap.size = w66.heap.size := e; omega)
            replace p17 : pts (setN w74 (w66.heap.size) 0 [.int .i64 ((askP p q.p q.u q.n).1.hold), .slice al1 nl1 cl1, .slice aw1 nw1 cw1]) (w66.heap.size) [.int .i64 ((askP p q.p q.u q.n).1.hold), .slice al1 nl1 cl1, .slice aw1 nw1 cw1] 56 := setN_pts0 p17 _ rfl
            replace hC := hC.trans hc76 (fun x hx => .inr (by omega))
            clear hc76; generalize setN w74 (w66.heap.size) 0 [.int .i64 ((askP p q.p q.u q.n).1.hold), .slice al1 nl1 cl1, .slice aw1 nw1 cw1] = w77 at hC z78 hP p6 hR p8 hmw p17 p18 ⊢
            refine E.eff (w' := setN w77 (w70.heap.size) 0 [.slice am ((askP p q.p q.u q.n).2.1.words.length) cm, .int .i64 ((askP p q.p q.u q.n).2.1.lane), .int .i64 ((askP p q.p q.u q.n).2.1.stamp), .int .i64 ((askP p q.p q.u q.n).2.1.late), .int .i64 ((askP p q.p q.u q.n).2.1.seq)]) rfl rfl (by exact xStore rfl (hF.at 18 rfl) (hF.at 97 rfl) p18 rfl (by kernel_rfl) rfl) ?_
            have hc79 : Chg (fun x => x = w70.heap.size) w77 (setN w77 (w70.heap.size) 0 [.slice am ((askP p q.p q.u q.n).2.1.words.length) cm, .int .i64 ((askP p q.p q.u q.n).2.1.lane), .int .i64 ((askP p q.p q.u q.n).2.1.stamp), .int .i64 ((askP p q.p q.u q.n).2.1.late), .int .i64 ((askP p q.p q.u q.n).2.1.seq)]) := setN_own _ _ _ _
            have z81 := hc79.size
            replace hP := hP.chg hc79 (fun y hy => by have hy : y = w70.heap.size := hy; subst hy; exact nb75)
            replace p6 := p6.chg hc79 (fun e => by have e : w8.heap.size = w70.heap.size := e; omega)
            replace hR := hR.kept hc79.size (fun x hx hl => hc79.block x hl (fun hn => hx.elim (fun hx => by have hn : x = w70.heap.size := hn; obtain ⟨hx0, hx1, hx2, hx3, hx4⟩ := hx; omega) (fun hx => by (try dsimp only at hx); exact by have hn : x = w70.heap.size := hn; omega)))
            replace p8 := p8.chg hc79 (fun e => by have e : wr.heap.size = w70.heap.size := e; omega)
            replace hmw := hmw.kept hc79.size (fun x hx hl => hc79.block x hl (fun hn => by have hn : x = w70.heap.size := hn; (try dsimp only at hx); omega))
            replace p17 := p17.chg hc79 (fun e => by have e : w66.heap.size = w70.heap.size := e; omega)
            replace p18 : pts (setN w77 (w70.heap.size) 0 [.slice am ((askP p q.p q.u q.n).2.1.words.length) cm, .int .i64 ((askP p q.p q.u q.n).2.1.lane), .int .i64 ((askP p q.p q.u q.n).2.1.stamp), .int .i64 ((askP p q.p q.u q.n).2.1.late), .int .i64 ((askP p q.p q.u q.n).2.1.seq)]) (w70.heap.size) [.slice am ((askP p q.p q.u q.n).2.1.words.length) cm, .int .i64 ((askP p q.p q.u q.n).2.1.lane), .int .i64 ((askP p q.p q.u q.n).2.1.stamp), .int .i64 ((askP p q.p q.u q.n).2.1.late), .int .i64 ((askP p q.p q.u q.n).2.1.seq)] 27 := setN_pts0 p18 _ rfl
            replace hC := hC.trans hc79 (fun x hx => .inr (by omega))
            clear hc79; generalize setN w77 (w70.heap.size) 0 [.slice am ((askP p q.p q.u q.n).2.1.words.length) cm, .int .i64 ((askP p q.p q.u q.n).2.1.lane), .int .i64 ((askP p q.p q.u q.n).2.1.stamp), .int .i64 ((askP p q.p q.u q.n).2.1.late), .int .i64 ((askP p q.p q.u q.n).2.1.seq)] = w80 at hC z81 hP p6 hR p8 hmw p17 p18 ⊢
            refine E.val (d := 19) (v := .int .i64 ((askP p q.p q.u q.n).2.2)) (w' := w80) rfl rfl rfl hF (by exact E.xAs rfl (hF.at 98 rfl)) ?_
            clear hF a; intro a hF
            refine wpList_nil ?_
            replace hF := hF.sub (m' := [(19, .int .i64 ((askP p q.p q.u q.n).2.2)), (18, .pointer (some ⟨w70.heap.size, 0, none⟩)), (17, .pointer (some ⟨w66.heap.size, 0, none⟩)), (8, .pointer (some ⟨wr.heap.size, 0, none⟩)), (7, .int .i64 (i : Int)), (1, .slice a3 ys.length c3), (5, .pointer (some ⟨pb, 0, none⟩)), (6, .pointer (some ⟨w8.heap.size, 0, none⟩))]) ⟨rfl, rfl, rfl, rfl, rfl, rfl, rfl, rfl, trivial⟩
            refine E.then_norm (hK23 _ _ ?_)
            refine wp_seq_k fun K24 hK24 => ?_
            refine wp_region_lit ?_  -- R22
            refine E.val (d := 99) (v := .agg #[.int .i64 ((askP p q.p q.u q.n).1.hold), .slice al1 nl1 cl1, .slice aw1 nw1 cw1]) (w' := w80) rfl rfl rfl hF (by exact xLoad rfl (hF.at 17 rfl) p17 Try.underlying56 rfl (by kernel_rfl)) ?_
            clear hF a; intro a hF
            refine E.eff (w' := setN w80 (w8.heap.size) 0 [.int .i64 ((askP p q.p q.u q.n).1.hold), .slice al1 nl1 cl1, .slice aw1 nw1 cw1]) rfl rfl (by exact xStore rfl (hF.at 6 rfl) (hF.at 99 rfl) p6 rfl (by kernel_rfl) rfl) ?_
            have hc82 : Chg (fun x => x = w8.heap.size) w80 (setN w80 (w8.heap.size) 0 [.int .i64 ((askP p q.p q.u q.n).1.hold), .slice al1 nl1 cl1, .slice aw1 nw1 cw1]) := setN_own _ _ _ _
            have z84 := hc82.size
            replace hP := hP.chg hc82 (fun y hy => by have hy : y = w8.heap.size := hy; subst hy; exact nb13)
            replace hR := hR.kept hc82.size (fun x hx hl => hc82.block x hl (fun hn => hx.elim (fun hx => by have hn : x = w8.heap.size := hn; obtain ⟨hx0, hx1, hx2, hx3, hx4⟩ := hx; omega) (fun hx => by (try dsimp only at hx); exact by have hn : x = w8.heap.size := hn; omega)))
            replace p8 := p8.chg hc82 (fun e => by have e : wr.heap.size = w8.heap.size := e; omega)
            replace hmw := hmw.kept hc82.size (fun x hx hl => hc82.block x hl (fun hn => by have hn : x = w8.heap.size := hn; (try dsimp only at hx); omega))
            replace p17 := p17.chg hc82 (fun e => by have e : w66.heap.size = w8.heap.size := e; omega)
            replace p18 := p18.chg hc82 (fun e => by have e : w70.heap.size = w8.heap.size := e; omega)
            replace p6 : pts (setN w80 (w8.heap.size) 0 [.int .i64 ((askP p q.p q.u q.n).1.hold), .slice al1 nl1 cl1, .slice aw1 nw1 cw1]) (w8.heap.size) [.int .i64 ((askP p q.p q.u q.n).1.hold), .slice al1 nl1 cl1, .slice aw1 nw1 cw1] 56 := setN_pts0 p6 _ rfl
            replace hC := hC.trans hc82 (fun x hx => .inr (by omega))
            clear hc82; generalize setN w80 (w8.heap.size) 0 [.int .i64 ((askP p q.p q.u q.n).1.hold), .slice al1 nl1 cl1, .slice aw1 nw1 cw1] = w83 at hC z84 hP p6 hR p8 hmw p17 p18 ⊢
            refine wpList_nil ?_
            refine E.then_norm (hK24 _ _ ?_)
            refine wp_seq_k fun K25 hK25 => ?_
            refine wp_region_lit ?_  -- R23
            refine E.val (d := 101) (v := .pointer (some ⟨pb, 0, none⟩)) (w' := w83) rfl rfl rfl hF (by exact E.xMv rfl (hF.at 5 rfl)) ?_
            clear hF a; intro a hF
            refine E.val (d := 102) (v := .pointer (some ⟨wr.heap.size, 1, none⟩)) (w' := w83) rfl rfl rfl hF (by have e8 : a.tmps[8]?.getD undef = .pointer (some ⟨wr.heap.size, 0, none⟩) := hF.at 8 rfl; simp [go_sem, e8]) ?_
            clear hF a; intro a hF
            refine E.val (d := 103) (v := .int .i64 q.p) (w' := w83) rfl rfl rfl hF (by have c1 : w83.cell? ⟨wr.heap.size, 1, none⟩ = some (.int .i64 q.p) := p8.cell 1; have e102 : a.tmps[102]?.getD undef = .pointer (some ⟨wr.heap.size, 1, none⟩) := hF.at 102 rfl; simp [go_sem, e102, c1]) ?_
            clear hF a; intro a hF
            refine E.val (d := 104) (v := .pointer (some ⟨wr.heap.size, 2, none⟩)) (w' := w83) rfl rfl rfl hF (by have e8 : a.tmps[8]?.getD undef = .pointer (some ⟨wr.heap.size, 0, none⟩) := hF.at 8 rfl; simp [go_sem, e8]) ?_
            clear hF a; intro a hF
            refine E.val (d := 105) (v := .int .i64 q.u) (w' := w83) rfl rfl rfl hF (by have c2 : w83.cell? ⟨wr.heap.size, 2, none⟩ = some (.int .i64 q.u) := p8.cell 2; have e104 : a.tmps[104]?.getD undef = .pointer (some ⟨wr.heap.size, 2, none⟩) := hF.at 104 rfl; simp [go_sem, e104, c2]) ?_
            clear hF a; intro a hF
            refine E.val (d := 106) (v := .pointer (some ⟨wr.heap.size, 3, none⟩)) (w' := w83) rfl rfl rfl hF (by have e8 : a.tmps[8]?.getD undef = .pointer (some ⟨wr.heap.size, 0, none⟩) := hF.at 8 rfl; simp [go_sem, e8]) ?_
            clear hF a; intro a hF
            refine E.val (d := 107) (v := .int .i64 q.n) (w' := w83) rfl rfl rfl hF (by have c3 : w83.cell? ⟨wr.heap.size, 3, none⟩ = some (.int .i64 q.n) := p8.cell 3; have e106 : a.tmps[106]?.getD undef = .pointer (some ⟨wr.heap.size, 3, none⟩) := hF.at 106 rfl; simp [go_sem, e106, c3]) ?_
            clear hF a; intro a hF
            refine E.call (f := 10) (xs := #[.pointer (some ⟨pb, 0, none⟩), .int .i64 q.p, .int .i64 q.u, .int .i64 q.n]) rfl rfl rfl hF (by have e101 : a.tmps[101]?.getD undef = .pointer (some ⟨pb, 0, none⟩) := hF.at 101 rfl; have e103 : a.tmps[103]?.getD undef = .int .i64 q.p := hF.at 103 rfl; have e105 : a.tmps[105]?.getD undef = .int .i64 q.u := hF.at 105 rfl; have e107 : a.tmps[107]?.getD undef = .int .i64 q.n := hF.at 107 rfl; simp [go_sem, e101, e103, e105, e107]) (ask_x hP hxi q.u q.n (by omega) (by omega)) ?_
            rintro e w85 ⟨ax, cx, rfl, hmx, M1, hP1, hsub, -, hc1⟩
            refine ⟨_, rfl, ?_⟩
            clear hF a; intro a hF
            have z86 := hc1.size
            have ol_p6 := p6.lt
            have ol_p8 := p8.lt
            have ol_p18 := p18.lt
            replace p6 := p6.chg hc1 nb13.1
            replace hR := (hR.mono (okr' := fun x => (fun x => (w15.heap.size ≤ x) ∧ (¬ M_hP x) ∧ (x ≠ wr.heap.size) ∧ (x ≠ w66.heap.size) ∧ (x ≠ w70.heap.size)) x ∧ x < w83.heap.size) (okb' := (fun x => x < w.heap.size)) (fun x hx hl => ⟨hx, hl⟩) (fun _ h _ => h))
            replace hR := (hR.kept hc1.size (fun x hx hl => hc1.block x hl (fun hn => hx.elim (fun hx => by obtain ⟨⟨hx0, hx1, hx2, hx3, hx4⟩, hy⟩ := hx; exact hx1 hn) (fun hx => by (try dsimp only at hx); have := hge x hn; omega)))).mono (okr' := (fun x => (w15.heap.size ≤ x) ∧ (¬ M1 x) ∧ (x ≠ wr.heap.size) ∧ (x ≠ w66.heap.size) ∧ (x ≠ w70.heap.size))) (okb' := (fun x => x < w.heap.size)) (fun x hx _ => by obtain ⟨⟨hx0, hx1, hx2, hx3, hx4⟩, hy⟩ := hx; exact ⟨hx0, fun e => (hsub x e).elim hx1 (fun h => by omega), hx2, hx3, hx4⟩) (fun _ h _ => h)
            replace p8 := p8.chg hc1 nb23.1
            replace hmw := hmw.kept hc1.size (fun x hx hl => hc1.block x hl (fun hn => by have := hge x hn; (try dsimp only at hx); omega))
            replace p18 := p18.chg hc1 nb75.1
            replace hC := hC.trans hc1 (fun x hx => .inr (hge x hx))
            replace nb13 : ¬ M1 (w8.heap.size) ∧ ¬ (newW W_hP M1 w83 w85) (w8.heap.size) := ⟨fun h => (hsub _ h).elim nb13.1 (fun h => by have := ol_p6; omega), fun h => h.elim nb13.2 (fun h => by have := h.1; have := ol_p6; omega)⟩
            replace nb23 : ¬ M1 (wr.heap.size) ∧ ¬ (newW W_hP M1 w83 w85) (wr.heap.size) := ⟨fun h => (hsub _ h).elim nb23.1 (fun h => by have := ol_p8; omega), fun h => h.elim nb23.2 (fun h => by have := h.1; have := ol_p8; omega)⟩
            replace nb75 : ¬ M1 (w70.heap.size) ∧ ¬ (newW W_hP M1 w83 w85) (w70.heap.size) := ⟨fun h => (hsub _ h).elim nb75.1 (fun h => by have := ol_p18; omega), fun h => h.elim nb75.2 (fun h => by have := h.1; have := ol_p18; omega)⟩
            replace hge : ∀ x, M1 x → w.heap.size ≤ x := fun x h => (hsub x h).elim (hge x) (fun h => by omega)
            replace hP := hP1; clear hsub hc1 ol_p6 ol_p8 ol_p18
            replace hmx := hmx.mono (ok' := fun x => x < w85.heap.size) (fun _ _ h => h)
            refine E.val (d := 100) (v := .tuple #[.agg #[.slice ax ((askP p q.p q.u q.n).2.1.words.length) cx, .int .i64 ((askP p q.p q.u q.n).2.1.lane), .int .i64 ((askP p q.p q.u q.n).2.1.stamp), .int .i64 ((askP p q.p q.u q.n).2.1.late), .int .i64 ((askP p q.p q.u q.n).2.1.seq)], .int .i64 ((askP p q.p q.u q.n).2.2)]) (w' := w85) rfl rfl rfl hF (by exact E.xMv rfl (hF.at 108 rfl)) ?_
            clear hF a; intro a hF
            refine E.val (d := 109) (v := .agg #[.slice ax ((askP p q.p q.u q.n).2.1.words.length) cx, .int .i64 ((askP p q.p q.u q.n).2.1.lane), .int .i64 ((askP p q.p q.u q.n).2.1.stamp), .int .i64 ((askP p q.p q.u q.n).2.1.late), .int .i64 ((askP p q.p q.u q.n).2.1.seq)]) (w' := w85) rfl rfl rfl hF (by exact E.xExt (xs := [.agg #[.slice ax ((askP p q.p q.u q.n).2.1.words.length) cx, .int .i64 ((askP p q.p q.u q.n).2.1.lane), .int .i64 ((askP p q.p q.u q.n).2.1.stamp), .int .i64 ((askP p q.p q.u q.n).2.1.late), .int .i64 ((askP p q.p q.u q.n).2.1.seq)], .int .i64 ((askP p q.p q.u q.n).2.2)]) rfl (hF.at 100 rfl) rfl) ?_
            clear hF a; intro a hF
            refine E.val (d := 110) (v := .int .i64 ((askP p q.p q.u q.n).2.2)) (w' := w85) rfl rfl rfl hF (by exact E.xExt (xs := [.agg #[.slice ax ((askP p q.p q.u q.n).2.1.words.length) cx, .int .i64 ((askP p q.p q.u q.n).2.1.lane), .int .i64 ((askP p q.p q.u q.n).2.1.stamp), .int .i64 ((askP p q.p q.u q.n).2.1.late), .int .i64 ((askP p q.p q.u q.n).2.1.seq)], .int .i64 ((askP p q.p q.u q.n).2.2)]) rfl (hF.at 100 rfl) rfl) ?_
            clear hF a; intro a hF
            refine E.val (d := 20) (v := .pointer (some ⟨w85.heap.size, 0, none⟩)) (w' := w85.alloc (.cells #[.slice none 0 0, .int .i64 0, .int .i64 0, .int .i64 0, .int .i64 0] 27)) rfl rfl rfl hF (by simp [go_sem]) ?_
            clear hF a; intro a hF
            have hb87 := (Below.refl w85.heap.size w85).alloc (Nat.le_refl _) (.cells #[.slice none 0 0, .int .i64 0, .int .i64 0, .int .i64 0, .int .i64 0] 27)
            have p20 : pts (w85.alloc (.cells #[.slice none 0 0, .int .i64 0, .int .i64 0, .int .i64 0, .int .i64 0] 27)) (w85.heap.size) [.slice none 0 0, .int .i64 0, .int .i64 0, .int .i64 0, .int .i64 0] 27 := pts.newA w85 #[.slice none 0 0, .int .i64 0, .int .i64 0, .int .i64 0, .int .i64 0] 27
            have z88 : w85.heap.size < (w85.alloc (.cells #[.slice none 0 0, .int .i64 0, .int .i64 0, .int .i64 0, .int .i64 0] 27)).heap.size := by simp
            have nb90 : ¬ M1 (w85.heap.size) ∧ ¬ (newW W_hP M1 w83 w85) (w85.heap.size) := ⟨fun hm => by have := hP.lt (w85.heap.size) (.inl hm); omega, fun hm => by have := hP.lt (w85.heap.size) (.inr hm); omega⟩
            replace hR := hR.mono (okr' := (fun x => (w15.heap.size ≤ x) ∧ (¬ M1 x) ∧ (x ≠ wr.heap.size) ∧ (x ≠ w66.heap.size) ∧ (x ≠ w70.heap.size) ∧ (x ≠ w85.heap.size))) (okb' := (fun x => x < w.heap.size)) (fun x hx hl => by obtain ⟨hx0, hx1, hx2, hx3, hx4⟩ := hx; exact ⟨hx0, hx1, hx2, hx3, hx4, (by omega)⟩) (fun _ h _ => h)
            replace hP := hP.below hb87
            replace p6 := p6.below hb87
            replace hR := hR.below hb87
            replace p8 := p8.below hb87
            replace hmw := hmw.below hb87
            replace p18 := p18.below hb87
            replace hmx := hmx.below hb87
            replace hC := hC.below hb87
            clear hb87; generalize w85.alloc (.cells #[.slice none 0 0, .int .i64 0, .int .i64 0, .int .i64 0, .int .i64 0] 27) = w89 at p20 z88 hC hP p6 hR p8 hmw p18 hmx ⊢
            refine E.eff (w' := setN w89 (w85.heap.size) 0 [.slice ax ((askP p q.p q.u q.n).2.1.words.length) cx, .int .i64 ((askP p q.p q.u q.n).2.1.lane), .int .i64 ((askP p q.p q.u q.n).2.1.stamp), .int .i64 ((askP p q.p q.u q.n).2.1.late), .int .i64 ((askP p q.p q.u q.n).2.1.seq)]) rfl rfl (by exact xStore rfl (hF.at 20 rfl) (hF.at 109 rfl) p20 rfl (by kernel_rfl) rfl) ?_
            have hc91 : Chg (fun x => x = w85.heap.size) w89 (setN w89 (w85.heap.size) 0 [.slice ax ((askP p q.p q.u q.n).2.1.words.length) cx, .int .i64 ((askP p q.p q.u q.n).2.1.lane), .int .i64 ((askP p q.p q.u q.n).2.1.stamp), .int .i64 ((askP p q.p q.u q.n).2.1.late), .int .i64 ((askP p q.p q.u q.n).2.1.seq)]) := setN_own _ _ _ _
            have z93 := hc91.size
            replace hP := hP.chg hc91 (fun y hy => by have hy : y = w85.heap.size := hy; subst hy; exact nb90)
            replace p6 := p6.chg hc91 (fun e => by have e : w8.heap.size = w85.heap.size := e; omega)
            replace hR := hR.kept hc91.size (fun x hx hl => hc91.block x hl (fun hn => hx.elim (fun hx => by have hn : x = w85.heap.size := hn; obtain ⟨hx0, hx1, hx2, hx3, hx4, hx5⟩ := hx; omega) (fun hx => by (try dsimp only at hx); exact by have hn : x = w85.heap.size := hn; omega)))
            replace p8 := p8.chg hc91 (fun e => by have e : wr.heap.size = w85.heap.size := e; omega)
            replace hmw := hmw.kept hc91.size (fun x hx hl => hc91.block x hl (fun hn => by have hn : x = w85.heap.size := hn; (try dsimp only at hx); omega))
            replace p18 := p18.chg hc91 (fun e => by have e : w70.heap.size = w85.heap.size := e; omega)
            replace hmx := hmx.kept hc91.size (fun x hx hl => hc91.block x hl (fun hn => by have hn : x = w85.heap.size := hn; (try dsimp only at hx); omega))
            replace p20 : pts (setN w89 (w85.heap.size) 0 [.slice ax ((askP p q.p q.u q.n).2.1.words.length) cx, .int .i64 ((askP p q.p q.u q.n).2.1.lane), .int .i64 ((askP p q.p q.u q.n).2.1.stamp), .int .i64 ((askP p q.p q.u q.n).2.1.late), .int .i64 ((askP p q.p q.u q.n).2.1.seq)]) (w85.heap.size) [.slice ax ((askP p q.p q.u q.n).2.1.words.length) cx, .int .i64 ((askP p q.p q.u q.n).2.1.lane), .int .i64 ((askP p q.p q.u q.n).2.1.stamp), .int .i64 ((askP p q.p q.u q.n).2.1.late), .int .i64 ((askP p q.p q.u q.n).2.1.seq)] 27 := setN_pts0 p20 _ rfl
            replace hC := hC.trans hc91 (fun x hx => .inr (by omega))
            clear hc91; generalize setN w89 (w85.heap.size) 0 [.slice ax ((askP p q.p q.u q.n).2.1.words.length) cx, .int .i64 ((askP p q.p q.u q.n).2.1.lane), .int .i64 ((askP p q.p q.u q.n).2.1.stamp), .int .i64 ((askP p q.p q.u q.n).2.1.late), .int .i64 ((askP p q.p q.u q.n).2.1.seq)] = w92 at hC z93 hP p6 hR p8 hmw p18 hmx p20 ⊢
            refine E.val (d := 21) (v := .int .i64 ((askP p q.p q.u q.n).2.2)) (w' := w92) rfl rfl rfl hF (by exact E.xAs rfl (hF.at 110 rfl)) ?_
            clear hF a; intro a hF
            refine wpList_nil ?_
            replace hF := hF.sub (m' := [(21, .int .i64 ((askP p q.p q.u q.n).2.2)), (20, .pointer (some ⟨w85.heap.size, 0, none⟩)), (19, .int .i64 ((askP p q.p q.u q.n).2.2)), (18, .pointer (some ⟨w70.heap.size, 0, none⟩)), (8, .pointer (some ⟨wr.heap.size, 0, none⟩)), (7, .int .i64 (i : Int)), (1, .slice a3 ys.length c3), (5, .pointer (some ⟨pb, 0, none⟩)), (6, .pointer (some ⟨w8.heap.size, 0, none⟩))]) ⟨rfl, rfl, rfl, rfl, rfl, rfl, rfl, rfl, rfl, trivial⟩
            refine E.then_norm (hK25 _ _ ?_)
            refine wp_region_lit ?_  -- R24
            refine E.val (d := 111) (v := .agg #[.slice am ((askP p q.p q.u q.n).2.1.words.length) cm, .int .i64 ((askP p q.p q.u q.n).2.1.lane), .int .i64 ((askP p q.p q.u q.n).2.1.stamp), .int .i64 ((askP p q.p q.u q.n).2.1.late), .int .i64 ((askP p q.p q.u q.n).2.1.seq)]) (w' := w92) rfl rfl rfl hF (by exact xLoad rfl (hF.at 18 rfl) p18 Try.underlying27 rfl (by kernel_rfl)) ?_
            clear hF a; intro a hF
            refine E.val (d := 112) (v := .agg #[.slice ax ((askP p q.p q.u q.n).2.1.words.length) cx, .int .i64 ((askP p q.p q.u q.n).2.1.lane), .int .i64 ((askP p q.p q.u q.n).2.1.stamp), .int .i64 ((askP p q.p q.u q.n).2.1.late), .int .i64 ((askP p q.p q.u q.n).2.1.seq)]) (w' := w92) rfl rfl rfl hF (by exact xLoad rfl (hF.at 20 rfl) p20 Try.underlying27 rfl (by kernel_rfl)) ?_
            clear hF a; intro a hF
            refine E.call (f := 24) (xs := #[.agg #[.slice am ((askP p q.p q.u q.n).2.1.words.length) cm, .int .i64 ((askP p q.p q.u q.n).2.1.lane), .int .i64 ((askP p q.p q.u q.n).2.1.stamp), .int .i64 ((askP p q.p q.u q.n).2.1.late), .int .i64 ((askP p q.p q.u q.n).2.1.seq)], .agg #[.slice ax ((askP p q.p q.u q.n).2.1.words.length) cx, .int .i64 ((askP p q.p q.u q.n).2.1.lane), .int .i64 ((askP p q.p q.u q.n).2.1.stamp), .int .i64 ((askP p q.p q.u q.n).2.1.late), .int .i64 ((askP p q.p q.u q.n).2.1.seq)]]) rfl rfl rfl hF (by have e111 : a.tmps[111]?.getD undef = .agg #[.slice am ((askP p q.p q.u q.n).2.1.words.length) cm, .int .i64 ((askP p q.p q.u q.n).2.1.lane), .int .i64 ((askP p q.p q.u q.n).2.1.stamp), .int .i64 ((askP p q.p q.u q.n).2.1.late), .int .i64 ((askP p q.p q.u q.n).2.1.seq)] := hF.at 111 rfl; have e112 : a.tmps[112]?.getD undef = .agg #[.slice ax ((askP p q.p q.u q.n).2.1.words.length) cx, .int .i64 ((askP p q.p q.u q.n).2.1.lane), .int .i64 ((askP p q.p q.u q.n).2.1.stamp), .int .i64 ((askP p q.p q.u q.n).2.1.late), .int .i64 ((askP p q.p q.u q.n).2.1.seq)] := hF.at 112 rfl; simp [go_sem, e111, e112]) (R2.one_eq hmw hmx rfl) ?_
            rintro e w95 ⟨rfl, hb94⟩
            refine ⟨_, rfl, ?_⟩
            clear hF a; intro a hF
            replace hP := hP.below hb94
            replace p6 := p6.below hb94
            replace hR := hR.below hb94
            replace p8 := p8.below hb94
            replace hmw := hmw.below hb94
            replace p18 := p18.below hb94
            replace hmx := hmx.below hb94
            replace p20 := p20.below hb94
            replace hC := hC.below hb94
            have z96 : w92.heap.size ≤ w95.heap.size := hb94.size
            clear hb94
            refine E.val (d := 114) (v := .bool true) (w' := w95) rfl rfl rfl hF (by exact E.xMv rfl (hF.at 113 rfl)) ?_
            clear hF a; intro a hF
            refine E.valG (d := 115) (v := .int .i64 ((askP p q.p q.u q.n).2.2)) (w' := w95) rfl rfl (hF.at 114 rfl) rfl rfl hF (by exact E.xMv rfl (hF.at 21 rfl)) ?_
            clear hF a; intro a hF
            refine E.valG (d := 116) (v := .int .i64 ((askP p q.p q.u q.n).2.2)) (w' := w95) rfl rfl (hF.at 114 rfl) rfl rfl hF (by exact E.xMv rfl (hF.at 19 rfl)) ?_
            clear hF a; intro a hF
            refine E.valG (d := 117) (v := .bool true) (w' := w95) rfl rfl (hF.at 114 rfl) rfl rfl hF (by have e115 : a.tmps[115]?.getD undef = .int .i64 ((askP p q.p q.u q.n).2.2) := hF.at 115 rfl; have e116 : a.tmps[116]?.getD undef = .int .i64 ((askP p q.p q.u q.n).2.2) := hF.at 116 rfl; simp [go_sem, e115, e116]) ?_
            clear hF a; intro a hF
            refine E.val (d := 118) (v := .bool true) (w' := w95) rfl rfl rfl hF (by have e114 : a.tmps[114]?.getD undef = .bool true := hF.at 114 rfl; have e117 : a.tmps[117]?.getD undef = .bool true := hF.at 117 rfl; simp [go_sem, e114, e117]) ?_
            clear hF a; intro a hF
            refine E.val (d := 9) (v := .bool true) (w' := w95) rfl rfl rfl hF (by exact E.xAs rfl (hF.at 118 rfl)) ?_
            clear hF a; intro a hF
            refine wpList_nil ?_
            have h1 := askP_of p q.p q.u q.n; clear hmw hmx
            refine E.in_norm ?_
            replace hF := hF.sub (m' := [(9, .bool true), (8, .pointer (some ⟨wr.heap.size, 0, none⟩)), (7, .int .i64 (i : Int)), (1, .slice a3 ys.length c3), (5, .pointer (some ⟨pb, 0, none⟩)), (6, .pointer (some ⟨w8.heap.size, 0, none⟩))]) ⟨rfl, rfl, rfl, rfl, rfl, rfl, trivial⟩
            refine E.then_norm (hK13 _ _ ?_)
            refine wp_seq_k fun K26 hK26 => ?_
            have hln := hR.lens.1; have hps1 : ((askP p q.p q.u q.n).1).s ≤ (i : Int) + 1 := (by have := h1.2.1; omega); have hpr1 : ((askP p q.p q.u q.n).1).row.length ≤ i + 1 := (by have := h1.2.2; omega)
            have hk39 : (!((((askP p q.p q.u q.n).1).ms.length : Int) == (nl1 : Int))) = false := by rw [show nl1 = ((askP p q.p q.u q.n).1).ms.length from hln]; simp
            refine E.tab 37 [Sp.eq (.bool true), Sp.eq (.bool false), Sp.eq (.bool false), Sp.eq (.pointer (some ⟨pb, 0, none⟩)), Sp.eq (.int .i64 (((askP p q.p q.u q.n).1).ms.length : Int)), Sp.eq (.pointer (some ⟨w8.heap.size, 1, none⟩)), Sp.eq (.slice al1 nl1 cl1), Sp.eq (.int .i64 (nl1 : Int)), Sp.eq (.bool (!((((askP p q.p q.u q.n).1).ms.length : Int) == (nl1 : Int)))), Sp.eq (.bool (!((((askP p q.p q.u q.n).1).ms.length : Int) == (nl1 : Int)))), Sp.eq (.bool (!((((askP p q.p q.u q.n).1).ms.length : Int) == (nl1 : Int)))), Sp.eq (.pointer (some ⟨pb, 0, none⟩)), Sp.of (fun v u => ∃ (aA : Option Addr) (cA : Nat) (qA : List (Value × Msg)), v = .slice aA qA.length cA ∧ MsgsAt (fun _ => True) (fun _ => True) u (.slice aA qA.length cA) qA ∧ qA.map Prod.snd = ((askP p q.p q.u q.n).1).ms) (fun v u u' ⟨aA, cA, qA, e_186, hAm, hAq⟩ hb => ⟨aA, cA, qA, e_186, hAm.below hb, hAq⟩), Sp.eq (.pointer (some ⟨w8.heap.size, 1, none⟩)), Sp.eq (.slice al1 nl1 cl1), Sp.eq (.bool true), Sp.eq (.bool false), Sp.eq (.bool false), Sp.eq (.bool false), Sp.eq (.pointer (some ⟨pb, 0, none⟩)), Sp.of (fun v u => ∃ (aX : Option Addr) (cX : Nat), v = .slice aX (((askP p q.p q.u q.n).1).row.length) cX ∧ IntsAt (fun _ => True) u (.slice aX ((askP p q.p q.u q.n).1).row.length cX) ((askP p q.p q.u q.n).1).row) (fun v u u' ⟨aX, cX, e_194, hX⟩ hb => ⟨aX, cX, e_194, hX.below hb⟩), Sp.eq (.agg #[.int .i64 ((askP p q.p q.u q.n).1.hold), .slice al1 nl1 cl1, .slice aw1 nw1 cw1]), Sp.of (fun v u => ∃ (aY : Option Addr) (cY : Nat), v = .slice aY (((askP p q.p q.u q.n).1).row.length) cY ∧ IntsAt (fun _ => True) u (.slice aY ((askP p q.p q.u q.n).1).row.length cY) ((askP p q.p q.u q.n).1).row) (fun v u u' ⟨aY, cY, e_196, hY⟩ hb => ⟨aY, cY, e_196, hY.below hb⟩), Sp.eq (.bool true), Sp.eq (.bool false), Sp.eq (.bool false), Sp.eq (.bool false), Sp.eq (.pointer (some ⟨pb, 0, none⟩)), Sp.eq (.pointer (some ⟨wr.heap.size, 1, none⟩)), Sp.eq (.int .i64 q.p), Sp.eq (.bool (decide (q.p ∈ ((askP p q.p q.u q.n).1).row))), Sp.eq (.agg #[.int .i64 ((askP p q.p q.u q.n).1.hold), .slice al1 nl1 cl1, .slice aw1 nw1 cw1]), Sp.eq (.pointer (some ⟨wr.heap.size, 1, none⟩)), Sp.eq (.int .i64 q.p), Sp.eq (.bool (decide (q.p ∈ ((askP p q.p q.u q.n).1).row))), Sp.eq (.bool false), Sp.eq (.bool false)] hF (fun _ _ _ _ _ h => h) (by kernel_rfl) (by kernel_rfl) ⟨?_, ?_, ?_, ?_, ?_, ?_, ?_, ?_, ?_, ?_, ?_, ?_, ?_, ?_, ?_, ?_, ?_, ?_, ?_, ?_, ?_, ?_, ?_, ?_, ?_, ?_, ?_, ?_, ?_, ?_, ?_, ?_, ?_, ?_, ?_, ?_, ?_, trivial⟩ ?_  -- R39
            · intro ac gs u hbO hgO hO
              refine opFree rfl ?_
              exact relRun (v := .bool true) (w' := u) (by exact E.xMv rfl ((hO.inm 9 rfl (hF.ev 9 _ rfl)))) (okP hgO rfl)
            · intro ac gs u hbO hgO hO
              refine opFree rfl ?_
              exact relRun (v := .bool false) (w' := u) (by have e174 : ac.tmps[174]?.getD undef = .bool true := (show ac.tmps[174]?.getD undef = .bool true from hO.tm 0 174 rfl rfl); simp [go_sem, e174]) (okP hgO rfl)
            · intro ac gs u hbO hgO hO
              refine opFree rfl ?_
              exact relRun (v := .bool false) (w' := u) (by exact E.xMv rfl ((show ac.tmps[175]?.getD undef = .bool false from hO.tm 1 175 rfl rfl))) (okP hgO rfl)
            · intro ac gs u hbO hgO hO
              refine opWant 2 176 rfl rfl ((show ac.tmps[176]?.getD undef = .bool false from hO.tm 2 176 rfl rfl)) ?_
              exact relRun (v := .pointer (some ⟨pb, 0, none⟩)) (w' := u) (by exact E.xMv rfl ((hO.inm 5 rfl (hF.ev 5 _ rfl)))) (okP hgO rfl)
            · intro ac gs u hbO hgO hO
              refine opWant 2 176 rfl rfl ((show ac.tmps[176]?.getD undef = .bool false from hO.tm 2 176 rfl rfl)) ?_
              refine relCall (f := 18) (args := #[.pointer (some ⟨pb, 0, none⟩)]) (by have e177 : ac.tmps[177]?.getD undef = .pointer (some ⟨pb, 0, none⟩) := (show ac.tmps[177]?.getD undef = .pointer (some ⟨pb, 0, none⟩) from hO.tm 3 177 rfl rfl); simp [go_sem, e177]) ?_
              refine Calls.mono (len_x (hP.below hbO)) ?_
              rintro e u' ⟨rfl, rfl⟩
              exact ⟨_, rfl, okP hgO rfl⟩
            · intro ac gs u hbO hgO hO
              refine opWant 2 176 rfl rfl ((show ac.tmps[176]?.getD undef = .bool false from hO.tm 2 176 rfl rfl)) ?_
              exact relRun (v := .pointer (some ⟨w8.heap.size, 1, none⟩)) (w' := u) (by have e6 : ac.tmps[6]?.getD undef = .pointer (some ⟨w8.heap.size, 0, none⟩) := (hO.inm 6 rfl (hF.ev 6 _ rfl)); simp [go_sem, e6]) (okP hgO rfl)
            · intro ac gs u hbO hgO hO
              refine opWant 2 176 rfl rfl ((show ac.tmps[176]?.getD undef = .bool false from hO.tm 2 176 rfl rfl)) ?_
              exact relRun (v := .slice al1 nl1 cl1) (w' := u) (by have c1 : u.cell? ⟨w8.heap.size, 1, none⟩ = some (.slice al1 nl1 cl1) := (p6.below hbO).cell 1; have e179 : ac.tmps[179]?.getD undef = .pointer (some ⟨w8.heap.size, 1, none⟩) := (show ac.tmps[179]?.getD undef = .pointer (some ⟨w8.heap.size, 1, none⟩) from hO.tm 5 179 rfl rfl); simp [go_sem, e179, c1]) (okP hgO rfl)
            · intro ac gs u hbO hgO hO
              refine opWant 2 176 rfl rfl ((show ac.tmps[176]?.getD undef = .bool false from hO.tm 2 176 rfl rfl)) ?_
              exact relRun (v := .int .i64 (nl1 : Int)) (w' := u) (by have e180 : ac.tmps[180]?.getD undef = .slice al1 nl1 cl1 := (show ac.tmps[180]?.getD undef = .slice al1 nl1 cl1 from hO.tm 6 180 rfl rfl); simp [go_sem, e180]) (okP hgO rfl)
            · intro ac gs u hbO hgO hO
              refine opWant 2 176 rfl rfl ((show ac.tmps[176]?.getD undef = .bool false from hO.tm 2 176 rfl rfl)) ?_
              exact relRun (v := .bool (!((((askP p q.p q.u q.n).1).ms.length : Int) == (nl1 : Int)))) (w' := u) (by have e178 : ac.tmps[178]?.getD undef = .int .i64 (((askP p q.p q.u q.n).1).ms.length : Int) := (show ac.tmps[178]?.getD undef = .int .i64 (((askP p q.p q.u q.n).1).ms.length : Int) from hO.tm 4 178 rfl rfl); have e181 : ac.tmps[181]?.getD undef = .int .i64 (nl1 : Int) := (show ac.tmps[181]?.getD undef = .int .i64 (nl1 : Int) from hO.tm 7 181 rfl rfl); simp [go_sem, e178, e181, bne]) (okP hgO rfl)
            · intro ac gs u hbO hgO hO
              refine opFree rfl ?_
              exact relRun (v := .bool (!((((askP p q.p q.u q.n).1).ms.length : Int) == (nl1 : Int)))) (w' := u) (by have e176 : ac.tmps[176]?.getD undef = .bool false := (show ac.tmps[176]?.getD undef = .bool false from hO.tm 2 176 rfl rfl); have e182 : ac.tmps[182]?.getD undef = .bool (!((((askP p q.p q.u q.n).1).ms.length : Int) == (nl1 : Int))) := (show ac.tmps[182]?.getD undef = .bool (!((((askP p q.p q.u q.n).1).ms.length : Int) == (nl1 : Int))) from hO.tm 8 182 rfl rfl); simp [go_sem, e176, e182]) (okP hgO rfl)
            · intro ac gs u hbO hgO hO
              refine opFree rfl ?_
              exact relRun (v := .bool (!((((askP p q.p q.u q.n).1).ms.length : Int) == (nl1 : Int)))) (w' := u) (by exact E.xMv rfl ((show ac.tmps[183]?.getD undef = .bool (!((((askP p q.p q.u q.n).1).ms.length : Int) == (nl1 : Int))) from hO.tm 9 183 rfl rfl))) (okP hgO rfl)
            · intro ac gs u hbO hgO hO
              refine opWant 10 184 rfl rfl ((((show ac.tmps[184]?.getD undef = .bool (!((((askP p q.p q.u q.n).1).ms.length : Int) == (nl1 : Int))) from hO.tm 10 184 rfl rfl)).trans (congrArg Value.bool hk39))) ?_
              exact relRun (v := .pointer (some ⟨pb, 0, none⟩)) (w' := u) (by exact E.xMv rfl ((hO.inm 5 rfl (hF.ev 5 _ rfl)))) (okP hgO rfl)
            · intro ac gs u hbO hgO hO
              refine opWant 10 184 rfl rfl ((((show ac.tmps[184]?.getD undef = .bool (!((((askP p q.p q.u q.n).1).ms.length : Int) == (nl1 : Int))) from hO.tm 10 184 rfl rfl)).trans (congrArg Value.bool hk39))) ?_
              refine relCall (f := 20) (args := #[.pointer (some ⟨pb, 0, none⟩)]) (by have e185 : ac.tmps[185]?.getD undef = .pointer (some ⟨pb, 0, none⟩) := (show ac.tmps[185]?.getD undef = .pointer (some ⟨pb, 0, none⟩) from hO.tm 11 185 rfl rfl); simp [go_sem, e185]) ?_
              refine Calls.mono (all_x (hP.below hbO)) ?_
              rintro e u' ⟨v, qA, rfl, hAq, hAm, hb97⟩
              obtain ⟨aA, cA, rfl⟩ := hAm.shape
              exact ⟨_, rfl, okB hgO hb97 ⟨_, _, _, rfl, hAm.mono (fun _ _ _ => trivial) (fun _ _ _ => trivial), hAq⟩⟩
            · intro ac gs u hbO hgO hO
              refine opWant 10 184 rfl rfl ((((show ac.tmps[184]?.getD undef = .bool (!((((askP p q.p q.u q.n).1).ms.length : Int) == (nl1 : Int))) from hO.tm 10 184 rfl rfl)).trans (congrArg Value.bool hk39))) ?_
              exact relRun (v := .pointer (some ⟨w8.heap.size, 1, none⟩)) (w' := u) (by have e6 : ac.tmps[6]?.getD undef = .pointer (some ⟨w8.heap.size, 0, none⟩) := (hO.inm 6 rfl (hF.ev 6 _ rfl)); simp [go_sem, e6]) (okP hgO rfl)
            · intro ac gs u hbO hgO hO
              refine opWant 10 184 rfl rfl ((((show ac.tmps[184]?.getD undef = .bool (!((((askP p q.p q.u q.n).1).ms.length : Int) == (nl1 : Int))) from hO.tm 10 184 rfl rfl)).trans (congrArg Value.bool hk39))) ?_
              exact relRun (v := .slice al1 nl1 cl1) (w' := u) (by have c1 : u.cell? ⟨w8.heap.size, 1, none⟩ = some (.slice al1 nl1 cl1) := (p6.below hbO).cell 1; have e187 : ac.tmps[187]?.getD undef = .pointer (some ⟨w8.heap.size, 1, none⟩) := (show ac.tmps[187]?.getD undef = .pointer (some ⟨w8.heap.size, 1, none⟩) from hO.tm 13 187 rfl rfl); simp [go_sem, e187, c1]) (okP hgO rfl)
            · intro ac gs u hbO hgO hO
              obtain ⟨aA, cA, qA, e_186, hAm, hAq⟩ := hO.tm 12 186 rfl rfl
              refine opWant 10 184 rfl rfl ((((show ac.tmps[184]?.getD undef = .bool (!((((askP p q.p q.u q.n).1).ms.length : Int) == (nl1 : Int))) from hO.tm 10 184 rfl rfl)).trans (congrArg Value.bool hk39))) ?_
              refine relCall (f := 22) (args := #[.slice aA qA.length cA, .slice al1 nl1 cl1]) (by have e186 : ac.tmps[186]?.getD undef = .slice aA qA.length cA := e_186; have e188 : ac.tmps[188]?.getD undef = .slice al1 nl1 cl1 := (show ac.tmps[188]?.getD undef = .slice al1 nl1 cl1 from hO.tm 14 188 rfl rfl); simp [go_sem, e186, e188]) ?_
              refine Calls.mono (same_ref hAm hAq (hR.below hbO)) ?_
              rintro e u' ⟨rfl, hb98⟩
              exact ⟨_, rfl, okB hgO hb98 rfl⟩
            · intro ac gs u hbO hgO hO
              refine opWant 10 184 rfl rfl ((((show ac.tmps[184]?.getD undef = .bool (!((((askP p q.p q.u q.n).1).ms.length : Int) == (nl1 : Int))) from hO.tm 10 184 rfl rfl)).trans (congrArg Value.bool hk39))) ?_
              exact relRun (v := .bool false) (w' := u) (by have e189 : ac.tmps[189]?.getD undef = .bool true := (show ac.tmps[189]?.getD undef = .bool true from hO.tm 15 189 rfl rfl); simp [go_sem, e189]) (okP hgO rfl)
            · intro ac gs u hbO hgO hO
              refine opFree rfl ?_
              exact relRun (v := .bool false) (w' := u) (by have e184 : ac.tmps[184]?.getD undef = .bool (!((((askP p q.p q.u q.n).1).ms.length : Int) == (nl1 : Int))) := (show ac.tmps[184]?.getD undef = .bool (!((((askP p q.p q.u q.n).1).ms.length : Int) == (nl1 : Int))) from hO.tm 10 184 rfl rfl); have e190 : ac.tmps[190]?.getD undef = .bool false := (show ac.tmps[190]?.getD undef = .bool false from hO.tm 16 190 rfl rfl); simp [go_sem, e184, e190, hk39]) (okP hgO rfl)
            · intro ac gs u hbO hgO hO
              refine opFree rfl ?_
              exact relRun (v := .bool false) (w' := u) (by exact E.xMv rfl ((show ac.tmps[191]?.getD undef = .bool false from hO.tm 17 191 rfl rfl))) (okP hgO rfl)
            · intro ac gs u hbO hgO hO
              refine opWant 18 192 rfl rfl ((show ac.tmps[192]?.getD undef = .bool false from hO.tm 18 192 rfl rfl)) ?_
              exact relRun (v := .pointer (some ⟨pb, 0, none⟩)) (w' := u) (by exact E.xMv rfl ((hO.inm 5 rfl (hF.ev 5 _ rfl)))) (okP hgO rfl)
            · intro ac gs u hbO hgO hO
              refine opWant 18 192 rfl rfl ((show ac.tmps[192]?.getD undef = .bool false from hO.tm 18 192 rfl rfl)) ?_
              refine relCall (f := 11) (args := #[.pointer (some ⟨pb, 0, none⟩)]) (by have e193 : ac.tmps[193]?.getD undef = .pointer (some ⟨pb, 0, none⟩) := (show ac.tmps[193]?.getD undef = .pointer (some ⟨pb, 0, none⟩) from hO.tm 19 193 rfl rfl); simp [go_sem, e193]) ?_
              refine Calls.mono (waiting_x (hP.below hbO) (by omega)) ?_
              rintro e u' ⟨v, rfl, hX, hb99⟩
              obtain ⟨aX, cX, rfl⟩ := hX.shape
              exact ⟨_, rfl, okB hgO hb99 ⟨_, _, rfl, hX.mono (fun _ _ _ => trivial)⟩⟩
            · intro ac gs u hbO hgO hO
              refine opWant 18 192 rfl rfl ((show ac.tmps[192]?.getD undef = .bool false from hO.tm 18 192 rfl rfl)) ?_
              exact relRun (v := .agg #[.int .i64 ((askP p q.p q.u q.n).1.hold), .slice al1 nl1 cl1, .slice aw1 nw1 cw1]) (w' := u) (by exact xLoad rfl ((hO.inm 6 rfl (hF.ev 6 _ rfl))) (p6.below hbO) Try.underlying56 rfl (by kernel_rfl)) (okP hgO rfl)
            · intro ac gs u hbO hgO hO
              refine opWant 18 192 rfl rfl ((show ac.tmps[192]?.getD undef = .bool false from hO.tm 18 192 rfl rfl)) ?_
              refine relCall (f := 30) (args := #[.agg #[.int .i64 ((askP p q.p q.u q.n).1.hold), .slice al1 nl1 cl1, .slice aw1 nw1 cw1]]) (by have e195 : ac.tmps[195]?.getD undef = .agg #[.int .i64 ((askP p q.p q.u q.n).1.hold), .slice al1 nl1 cl1, .slice aw1 nw1 cw1] := (show ac.tmps[195]?.getD undef = .agg #[.int .i64 ((askP p q.p q.u q.n).1.hold), .slice al1 nl1 cl1, .slice aw1 nw1 cw1] from hO.tm 21 195 rfl rfl); simp [go_sem, e195]) ?_
              refine Calls.mono (waiting_p (hR.below hbO) _ (by omega)) ?_
              rintro e u' ⟨v, rfl, hY, hb100⟩
              obtain ⟨aY, cY, rfl⟩ := hY.shape
              exact ⟨_, rfl, okB hgO hb100 ⟨_, _, rfl, hY.mono (fun _ _ _ => trivial)⟩⟩
            · intro ac gs u hbO hgO hO
              obtain ⟨aX, cX, e_194, hX⟩ := hO.tm 20 194 rfl rfl
              obtain ⟨aY, cY, e_196, hY⟩ := hO.tm 22 196 rfl rfl
              refine opWant 18 192 rfl rfl ((show ac.tmps[192]?.getD undef = .bool false from hO.tm 18 192 rfl rfl)) ?_
              refine relCall (f := 23) (args := #[.slice aX (((askP p q.p q.u q.n).1).row.length) cX, .slice aY (((askP p q.p q.u q.n).1).row.length) cY]) (by have e194 : ac.tmps[194]?.getD undef = .slice aX (((askP p q.p q.u q.n).1).row.length) cX := e_194; have e196 : ac.tmps[196]?.getD undef = .slice aY (((askP p q.p q.u q.n).1).row.length) cY := e_196; simp [go_sem, e194, e196]) ?_
              refine Calls.mono (ints_same hX hY) ?_
              rintro e u' ⟨rfl, hb101⟩
              exact ⟨_, rfl, okB hgO hb101 rfl⟩
            · intro ac gs u hbO hgO hO
              refine opWant 18 192 rfl rfl ((show ac.tmps[192]?.getD undef = .bool false from hO.tm 18 192 rfl rfl)) ?_
              exact relRun (v := .bool false) (w' := u) (by have e197 : ac.tmps[197]?.getD undef = .bool true := (show ac.tmps[197]?.getD undef = .bool true from hO.tm 23 197 rfl rfl); simp [go_sem, e197]) (okP hgO rfl)
            · intro ac gs u hbO hgO hO
              refine opFree rfl ?_
              exact relRun (v := .bool false) (w' := u) (by have e192 : ac.tmps[192]?.getD undef = .bool false := (show ac.tmps[192]?.getD undef = .bool false from hO.tm 18 192 rfl rfl); have e198 : ac.tmps[198]?.getD undef = .bool false := (show ac.tmps[198]?.getD undef = .bool false from hO.tm 24 198 rfl rfl); simp [go_sem, e192, e198]) (okP hgO rfl)
            · intro ac gs u hbO hgO hO
              refine opFree rfl ?_
              exact relRun (v := .bool false) (w' := u) (by exact E.xMv rfl ((show ac.tmps[199]?.getD undef = .bool false from hO.tm 25 199 rfl rfl))) (okP hgO rfl)
            · intro ac gs u hbO hgO hO
              refine opWant 26 200 rfl rfl ((show ac.tmps[200]?.getD undef = .bool false from hO.tm 26 200 rfl rfl)) ?_
              exact relRun (v := .pointer (some ⟨pb, 0, none⟩)) (w' := u) (by exact E.xMv rfl ((hO.inm 5 rfl (hF.ev 5 _ rfl)))) (okP hgO rfl)
            · intro ac gs u hbO hgO hO
              refine opWant 26 200 rfl rfl ((show ac.tmps[200]?.getD undef = .bool false from hO.tm 26 200 rfl rfl)) ?_
              exact relRun (v := .pointer (some ⟨wr.heap.size, 1, none⟩)) (w' := u) (by have e8 : ac.tmps[8]?.getD undef = .pointer (some ⟨wr.heap.size, 0, none⟩) := (hO.inm 8 rfl (hF.ev 8 _ rfl)); simp [go_sem, e8]) (okP hgO rfl)
            · intro ac gs u hbO hgO hO
              refine opWant 26 200 rfl rfl ((show ac.tmps[200]?.getD undef = .bool false from hO.tm 26 200 rfl rfl)) ?_
              exact relRun (v := .int .i64 q.p) (w' := u) (by have c1 : u.cell? ⟨wr.heap.size, 1, none⟩ = some (.int .i64 q.p) := (p8.below hbO).cell 1; have e202 : ac.tmps[202]?.getD undef = .pointer (some ⟨wr.heap.size, 1, none⟩) := (show ac.tmps[202]?.getD undef = .pointer (some ⟨wr.heap.size, 1, none⟩) from hO.tm 28 202 rfl rfl); simp [go_sem, e202, c1]) (okP hgO rfl)
            · intro ac gs u hbO hgO hO
              refine opWant 26 200 rfl rfl ((show ac.tmps[200]?.getD undef = .bool false from hO.tm 26 200 rfl rfl)) ?_
              refine relCall (f := 19) (args := #[.pointer (some ⟨pb, 0, none⟩), .int .i64 q.p]) (by have e201 : ac.tmps[201]?.getD undef = .pointer (some ⟨pb, 0, none⟩) := (show ac.tmps[201]?.getD undef = .pointer (some ⟨pb, 0, none⟩) from hO.tm 27 201 rfl rfl); have e203 : ac.tmps[203]?.getD undef = .int .i64 q.p := (show ac.tmps[203]?.getD undef = .int .i64 q.p from hO.tm 29 203 rfl rfl); simp [go_sem, e201, e203]) ?_
              refine Calls.mono (waits_x (hP.below hbO) _) ?_
              rintro e u' ⟨rfl, rfl⟩
              exact ⟨_, rfl, okP hgO rfl⟩
            · intro ac gs u hbO hgO hO
              refine opWant 26 200 rfl rfl ((show ac.tmps[200]?.getD undef = .bool false from hO.tm 26 200 rfl rfl)) ?_
              exact relRun (v := .agg #[.int .i64 ((askP p q.p q.u q.n).1.hold), .slice al1 nl1 cl1, .slice aw1 nw1 cw1]) (w' := u) (by exact xLoad rfl ((hO.inm 6 rfl (hF.ev 6 _ rfl))) (p6.below hbO) Try.underlying56 rfl (by kernel_rfl)) (okP hgO rfl)
            · intro ac gs u hbO hgO hO
              refine opWant 26 200 rfl rfl ((show ac.tmps[200]?.getD undef = .bool false from hO.tm 26 200 rfl rfl)) ?_
              exact relRun (v := .pointer (some ⟨wr.heap.size, 1, none⟩)) (w' := u) (by have e8 : ac.tmps[8]?.getD undef = .pointer (some ⟨wr.heap.size, 0, none⟩) := (hO.inm 8 rfl (hF.ev 8 _ rfl)); simp [go_sem, e8]) (okP hgO rfl)
            · intro ac gs u hbO hgO hO
              refine opWant 26 200 rfl rfl ((show ac.tmps[200]?.getD undef = .bool false from hO.tm 26 200 rfl rfl)) ?_
              exact relRun (v := .int .i64 q.p) (w' := u) (by have c1 : u.cell? ⟨wr.heap.size, 1, none⟩ = some (.int .i64 q.p) := (p8.below hbO).cell 1; have e206 : ac.tmps[206]?.getD undef = .pointer (some ⟨wr.heap.size, 1, none⟩) := (show ac.tmps[206]?.getD undef = .pointer (some ⟨wr.heap.size, 1, none⟩) from hO.tm 32 206 rfl rfl); simp [go_sem, e206, c1]) (okP hgO rfl)
            · intro ac gs u hbO hgO hO
              refine opWant 26 200 rfl rfl ((show ac.tmps[200]?.getD undef = .bool false from hO.tm 26 200 rfl rfl)) ?_
              refine relCall (f := 31) (args := #[.agg #[.int .i64 ((askP p q.p q.u q.n).1.hold), .slice al1 nl1 cl1, .slice aw1 nw1 cw1], .int .i64 q.p]) (by have e205 : ac.tmps[205]?.getD undef = .agg #[.int .i64 ((askP p q.p q.u q.n).1.hold), .slice al1 nl1 cl1, .slice aw1 nw1 cw1] := (show ac.tmps[205]?.getD undef = .agg #[.int .i64 ((askP p q.p q.u q.n).1.hold), .slice al1 nl1 cl1, .slice aw1 nw1 cw1] from hO.tm 31 205 rfl rfl); have e207 : ac.tmps[207]?.getD undef = .int .i64 q.p := (show ac.tmps[207]?.getD undef = .int .i64 q.p from hO.tm 33 207 rfl rfl); simp [go_sem, e205, e207]) ?_
              refine Calls.mono (waits_p (hR.below hbO) _ _) ?_
              rintro e u' ⟨rfl, hb102⟩
              exact ⟨_, rfl, okB hgO hb102 rfl⟩
            · intro ac gs u hbO hgO hO
              refine opWant 26 200 rfl rfl ((show ac.tmps[200]?.getD undef = .bool false from hO.tm 26 200 rfl rfl)) ?_
              exact relRun (v := .bool false) (w' := u) (by have e204 : ac.tmps[204]?.getD undef = .bool (decide (q.p ∈ ((askP p q.p q.u q.n).1).row)) := (show ac.tmps[204]?.getD undef = .bool (decide (q.p ∈ ((askP p q.p q.u q.n).1).row)) from hO.tm 30 204 rfl rfl); have e208 : ac.tmps[208]?.getD undef = .bool (decide (q.p ∈ ((askP p q.p q.u q.n).1).row)) := (show ac.tmps[208]?.getD undef = .bool (decide (q.p ∈ ((askP p q.p q.u q.n).1).row)) from hO.tm 34 208 rfl rfl); simp [go_sem, e204, e208]) (okP hgO rfl)
            · intro ac gs u hbO hgO hO
              refine opFree rfl ?_
              exact relRun (v := .bool false) (w' := u) (by have e200 : ac.tmps[200]?.getD undef = .bool false := (show ac.tmps[200]?.getD undef = .bool false from hO.tm 26 200 rfl rfl); have e209 : ac.tmps[209]?.getD undef = .bool false := (show ac.tmps[209]?.getD undef = .bool false from hO.tm 35 209 rfl rfl); simp [go_sem, e200, e209]) (okP hgO rfl)
            intro vs gs w103 hb104 hgO hrO
            have r0 : vs 0 = .bool true := hrO 0 (by decide)
            have r1 : vs 1 = .bool false := hrO 1 (by decide)
            have r2 : vs 2 = .bool false := hrO 2 (by decide)
            have r3 : vs 3 = .pointer (some ⟨pb, 0, none⟩) := hrO 3 (by decide)
            have r4 : vs 4 = .int .i64 (((askP p q.p q.u q.n).1).ms.length : Int) := hrO 4 (by decide)
            have r5 : vs 5 = .pointer (some ⟨w8.heap.size, 1, none⟩) := hrO 5 (by decide)
            have r6 : vs 6 = .slice al1 nl1 cl1 := hrO 6 (by decide)
            have r7 : vs 7 = .int .i64 (nl1 : Int) := hrO 7 (by decide)
            have r8 : vs 8 = .bool (!((((askP p q.p q.u q.n).1).ms.length : Int) == (nl1 : Int))) := hrO 8 (by decide)
            have r9 : vs 9 = .bool (!((((askP p q.p q.u q.n).1).ms.length : Int) == (nl1 : Int))) := hrO 9 (by decide)
            have r10 : vs 10 = .bool (!((((askP p q.p q.u q.n).1).ms.length : Int) == (nl1 : Int))) := hrO 10 (by decide)
            have r11 : vs 11 = .pointer (some ⟨pb, 0, none⟩) := hrO 11 (by decide)
            have r13 : vs 13 = .pointer (some ⟨w8.heap.size, 1, none⟩) := hrO 13 (by decide)
            have r14 : vs 14 = .slice al1 nl1 cl1 := hrO 14 (by decide)
            have r15 : vs 15 = .bool true := hrO 15 (by decide)
            have r16 : vs 16 = .bool false := hrO 16 (by decide)
            have r17 : vs 17 = .bool false := hrO 17 (by decide)
            have r18 : vs 18 = .bool false := hrO 18 (by decide)
            have r19 : vs 19 = .pointer (some ⟨pb, 0, none⟩) := hrO 19 (by decide)
            have r21 : vs 21 = .agg #[.int .i64 ((askP p q.p q.u q.n).1.hold), .slice al1 nl1 cl1, .slice aw1 nw1 cw1] := hrO 21 (by decide)
            have r23 : vs 23 = .bool true := hrO 23 (by decide)
            have r24 : vs 24 = .bool false := hrO 24 (by decide)
            have r25 : vs 25 = .bool false := hrO 25 (by decide)
            have r26 : vs 26 = .bool false := hrO 26 (by decide)
            have r27 : vs 27 = .pointer (some ⟨pb, 0, none⟩) := hrO 27 (by decide)
            have r28 : vs 28 = .pointer (some ⟨wr.heap.size, 1, none⟩) := hrO 28 (by decide)
            have r29 : vs 29 = .int .i64 q.p := hrO 29 (by decide)
            have r30 : vs 30 = .bool (decide (q.p ∈ ((askP p q.p q.u q.n).1).row)) := hrO 30 (by decide)
            have r31 : vs 31 = .agg #[.int .i64 ((askP p q.p q.u q.n).1.hold), .slice al1 nl1 cl1, .slice aw1 nw1 cw1] := hrO 31 (by decide)
            have r32 : vs 32 = .pointer (some ⟨wr.heap.size, 1, none⟩) := hrO 32 (by decide)
            have r33 : vs 33 = .int .i64 q.p := hrO 33 (by decide)
            have r34 : vs 34 = .bool (decide (q.p ∈ ((askP p q.p q.u q.n).1).row)) := hrO 34 (by decide)
            have r35 : vs 35 = .bool false := hrO 35 (by decide)
            have r36 : vs 36 = .bool false := hrO 36 (by decide)
            intro a hF'; clear hF hrO; have hF := hF'; clear hF'
            simp only [List.take_succ_cons, List.take_zero, E.putsM, r0, r1, r2, r3, r4, r5, r6, r7, r8, r9, r10, r11, r13, r14, r15, r16, r17, r18, r19, r21, r23, r24, r25, r26, r27, r28, r29, r30, r31, r32, r33, r34, r35, r36] at hF
            clear r0 r1 r2 r3 r4 r5 r6 r7 r8 r9 r10 r11 r13 r14 r15 r16 r17 r18 r19 r21 r23 r24 r25 r26 r27 r28 r29 r30 r31 r32 r33 r34 r35 r36
            replace hP := hP.below hb104
            replace p6 := p6.below hb104
            replace hR := hR.below hb104
            replace p8 := p8.below hb104
            replace hC := hC.below hb104
            have z105 : w95.heap.size ≤ w103.heap.size := hb104.size
            clear hb104 hgO
            simp only [List.drop_succ_cons, List.drop_zero]
            refine wpList_nil ?_
            replace hF := hF.sub (m' := [(210, .bool false), (7, .int .i64 (i : Int)), (1, .slice a3 ys.length c3), (5, .pointer (some ⟨pb, 0, none⟩)), (6, .pointer (some ⟨w8.heap.size, 0, none⟩))]) ⟨rfl, rfl, rfl, rfl, rfl, trivial⟩
            refine E.then_norm (hK26 _ _ ?_)
            refine E.condF rfl (hF.at 210 rfl) ?_
            refine wp_skip ?_
            refine E.in_norm ?_
            refine E.then_norm (hK10 _ _ ?_)
            refine wp_region_lit ?_  -- R7
            refine E.val (d := 40) (v := .int .i64 (i : Int)) (w' := w103) rfl rfl rfl hF (by exact E.xMv rfl (hF.at 7 rfl)) ?_
            clear hF a; intro a hF
            refine E.val (d := 41) (v := .int .i64 ((i : Int) + 1)) (w' := w103) rfl rfl rfl hF (by have hr : IntKind.i64.wrap ((i : Int) + 1) = (i : Int) + 1 := E.wrapI (by omega) (by omega); have e40 : a.tmps[40]?.getD undef = .int .i64 (i : Int) := hF.at 40 rfl; simp [go_sem, e40, hr]) ?_
            clear hF a; intro a hF
            refine E.val (d := 7) (v := .int .i64 ((i : Int) + 1)) (w' := w103) rfl rfl rfl hF (by exact E.xAs rfl (hF.at 41 rfl)) ?_
            clear hF a; intro a hF
            refine wpList_nil ?_
            refine E.then_norm ?_
            replace hR := hR.mono (okr' := (fun x => (w15.heap.size ≤ x) ∧ (¬ M1 x))) (okb' := (fun x => x < w.heap.size)) (fun x hx hl => by obtain ⟨hx0, hx1, hx2, hx3, hx4, hx5⟩ := hx; exact ⟨hx0, hx1⟩) (fun _ h _ => h)
            exact ⟨_, by omega, i + 1, al1, nl1, cl1, aw1, nw1, cw1, (askP p q.p q.u q.n).1, M1, (newW W_hP M1 w83 w85), rfl, hF.sub (by exact ⟨rfl, rfl, rfl, rfl, trivial⟩), hC, by omega, hP, p6, hR, by omega, by have := h1.2.1; omega, by have := h1.2.2; omega, hge, nb13⟩
          ·
            have hK6 := of_decide_eq_false hc64
            refine E.condF rfl (((hF.at 83 rfl).trans (congrArg Value.bool hc64))) ?_
            refine wp_seq_k fun K27 hK27 => ?_
            refine wp_region_lit ?_  -- R25
            refine E.val (d := 120) (v := .bool (K == 6)) (w' := w28) rfl rfl rfl hF (by have e47 : a.tmps[47]?.getD undef = .int .i64 K := hF.at 47 rfl; simp [go_sem, e47]) ?_
            clear hF a; intro a hF
            refine E.val (d := 119) (v := .bool (K == 6)) (w' := w28) rfl rfl rfl hF (by exact E.xAs rfl (hF.at 120 rfl)) ?_
            clear hF a; intro a hF
            refine wpList_nil ?_
            refine E.then_norm (hK27 _ _ ?_)
            rcases E.bsplit (K == 6) with hc106 | hc106
            ·
              refine E.condT rfl (((hF.at 119 rfl).trans (congrArg Value.bool hc106))) ?_
              refine wp_seq_k fun K28 hK28 => ?_
              have hPlt := hP.lt
              refine wp_region_lit ?_  -- R26
              refine E.val (d := 122) (v := .agg #[.int .i64 p.hold, .slice al nl cl, .slice aw nw cw]) (w' := w28) rfl rfl rfl hF (by exact xLoad rfl (hF.at 6 rfl) p6 Try.underlying56 rfl (by kernel_rfl)) ?_
              clear hF a; intro a hF
              refine E.val (d := 123) (v := .pointer (some ⟨wr.heap.size, 3, none⟩)) (w' := w28) rfl rfl rfl hF (by have e8 : a.tmps[8]?.getD undef = .pointer (some ⟨wr.heap.size, 0, none⟩) := hF.at 8 rfl; simp [go_sem, e8]) ?_
              clear hF a; intro a hF
              refine E.val (d := 124) (v := .int .i64 q.n) (w' := w28) rfl rfl rfl hF (by have c3 : w28.cell? ⟨wr.heap.size, 3, none⟩ = some (.int .i64 q.n) := p8.cell 3; have e123 : a.tmps[123]?.getD undef = .pointer (some ⟨wr.heap.size, 3, none⟩) := hF.at 123 rfl; simp [go_sem, e123, c3]) ?_
              clear hF a; intro a hF
              refine E.call (f := 28) (xs := #[.agg #[.int .i64 p.hold, .slice al nl cl, .slice aw nw cw], .int .i64 q.n]) rfl rfl rfl hF (by have e122 : a.tmps[122]?.getD undef = .agg #[.int .i64 p.hold, .slice al nl cl, .slice aw nw cw] := hF.at 122 rfl; have e124 : a.tmps[124]?.getD undef = .int .i64 q.n := hF.at 124 rfl; simp [go_sem, e122, e124]) (expire_p hR (by omega) q.n) ?_
              rintro e w108 ⟨v, v2, rfl, ⟨al1, nl1, cl1, aw1, nw1, cw1, rfl, hR2⟩, hk2, hb107⟩
              obtain ⟨ak, ck, rfl⟩ := hk2.shape
              refine ⟨_, rfl, ?_⟩
              clear hF a; intro a hF
              replace hP := hP.below hb107
              replace p6 := p6.below hb107
              replace hR := hR.below hb107
              replace p8 := p8.below hb107
              replace hC := hC.below hb107
              have z109 : w28.heap.size ≤ w108.heap.size := hb107.size
              clear hb107
              have hz : w28.heap.size ≤ w108.heap.size := by omega
              clear hR; have hR := hR2.mono (okr' := (fun x => (w15.heap.size ≤ x) ∧ (¬ M_hP x) ∧ (x ≠ wr.heap.size))) (okb' := (fun x => x < w.heap.size)) (fun x hx hl => by exact hx.elim (fun hx => by obtain ⟨hx0, hx1, hx2⟩ := hx; exact ⟨hx0, hx1, hx2⟩) (fun hx => ⟨by omega, fun hm => by have := hPlt x (.inl hm); omega, by omega⟩)) (fun _ h _ => h)
              clear hR2 hz
              replace hk2 := hk2.mono (ok' := (fun x => (w28.heap.size ≤ x) ∧ (x < w108.heap.size) ∧ (¬ M_hP x))) (fun x hx hl => ⟨hx, hl, fun hm => by have := hPlt x (.inl hm); omega⟩)
              refine E.val (d := 121) (v := .tuple #[.agg #[.int .i64 ((expP p q.n).hold), .slice al1 nl1 cl1, .slice aw1 nw1 cw1], .slice ak ((keysE (p.es.filter (lateE q.n))).length) ck]) (w' := w108) rfl rfl rfl hF (by exact E.xMv rfl (hF.at 125 rfl)) ?_
              clear hF a; intro a hF
              refine E.val (d := 126) (v := .agg #[.int .i64 ((expP p q.n).hold), .slice al1 nl1 cl1, .slice aw1 nw1 cw1]) (w' := w108) rfl rfl rfl hF (by exact E.xExt (xs := [.agg #[.int .i64 ((expP p q.n).hold), .slice al1 nl1 cl1, .slice aw1 nw1 cw1], .slice ak ((keysE (p.es.filter (lateE q.n))).length) ck]) rfl (hF.at 121 rfl) rfl) ?_
              clear hF a; intro a hF
              refine E.val (d := 127) (v := .slice ak ((keysE (p.es.filter (lateE q.n))).length) ck) (w' := w108) rfl rfl rfl hF (by exact E.xExt (xs := [.agg #[.int .i64 ((expP p q.n).hold), .slice al1 nl1 cl1, .slice aw1 nw1 cw1], .slice ak ((keysE (p.es.filter (lateE q.n))).length) ck]) rfl (hF.at 121 rfl) rfl) ?_
              clear hF a; intro a hF
              refine E.val (d := 22) (v := .pointer (some ⟨w108.heap.size, 0, none⟩)) (w' := w108.alloc (.cells #[.int .i64 0, .slice none 0 0, .slice none 0 0] 56)) rfl rfl rfl hF (by simp [go_sem]) ?_
              clear hF a; intro a hF
              have hb110 := (Below.refl w108.heap.size w108).alloc (Nat.le_refl _) (.cells #[.int .i64 0, .slice none 0 0, .slice none 0 0] 56)
              have p22 : pts (w108.alloc (.cells #[.int .i64 0, .slice none 0 0, .slice none 0 0] 56)) (w108.heap.size) [.int .i64 0, .slice none 0 0, .slice none 0 0] 56 := pts.newA w108 #[.int .i64 0, .slice none 0 0, .slice none 0 0] 56
              have z111 : w108.heap.size < (w108.alloc (.cells #[.int .i64 0, .slice none 0 0, .slice none 0 0] 56)).heap.size := by simp
              have nb113 : ¬ M_hP (w108.heap.size) ∧ ¬ W_hP (w108.heap.size) := ⟨fun hm => by have := hP.lt (w108.heap.size) (.inl hm); omega, fun hm => by have := hP.lt (w108.heap.size) (.inr hm); omega⟩
              replace hR := hR.mono (okr' := (fun x => (w15.heap.size ≤ x) ∧ (¬ M_hP x) ∧ (x ≠ wr.heap.size) ∧ (x ≠ w108.heap.size))) (okb' := (fun x => x < w.heap.size)) (fun x hx hl => by obtain ⟨hx0, hx1, hx2⟩ := hx; exact ⟨hx0, hx1, hx2, (by omega)⟩) (fun _ h _ => h)
              replace hP := hP.below hb110
              replace p6 := p6.below hb110
              replace hR := hR.below hb110
              replace p8 := p8.below hb110
              replace hk2 := hk2.below hb110
              replace hC := hC.below hb110
              clear hb110; generalize w108.alloc (.cells #[.int .i64 0, .slice none 0 0, .slice none 0 0] 56) = w112 at p22 z111 hC hP p6 hR p8 hk2 ⊢
              refine E.eff (w' := setN w112 (w108.heap.size) 0 [.int .i64 ((expP p q.n).hold), .slice al1 nl1 cl1, .slice aw1 nw1 cw1]) rfl rfl (by exact xStore rfl (hF.at 22 rfl) (hF.at 126 rfl) p22 rfl (by kernel_rfl) rfl) ?_
              have hc114 : Chg (fun x => x = w108.heap.size) w112 (setN w112 (w108.heap.size) 0 [.int .i64 ((expP p q.n).hold), .slice al1 nl1 cl1, .slice aw1 nw1 cw1]) := setN_own _ _ _ _
              have z116 := hc114.size
              replace hP := hP.chg hc114 (fun y hy => by have hy : y = w108.heap.size := hy; subst hy; exact nb113)
              replace p6 := p6.chg hc114 (fun e => by have e : w8.heap.size = w108.heap.size := e; omega)
              replace hR := hR.kept hc114.size (fun x hx hl => hc114.block x hl (fun hn => hx.elim (fun hx => by have hn : x = w108.heap.size := hn; obtain ⟨hx0, hx1, hx2, hx3⟩ := hx; omega) (fun hx => by (try dsimp only at hx); exact by have hn : x = w108.heap.size := hn; omega)))
              replace p8 := p8.chg hc114 (fun e => by have e : wr.heap.size = w108.heap.size := e; omega)
              replace hk2 := hk2.kept hc114.size (fun x hx hl => hc114.block x hl (fun hn => by have hn : x = w108.heap.size := hn; obtain ⟨hx0, hx1, hx2⟩ := hx; omega))
              replace p22 : pts (setN w112 (w108.heap.size) 0 [.int .i64 ((expP p q.n).hold), .slice al1 nl1 cl1, .slice aw1 nw1 cw1]) (w108.heap.size) [.int .i64 ((expP p q.n).hold), .slice al1 nl1 cl1, .slice aw1 nw1 cw1] 56 := setN_pts0 p22 _ rfl
              replace hC := hC.trans hc114 (fun x hx => .inr (by omega))
              clear hc114; generalize setN w112 (w108.heap.size) 0 [.int .i64 ((expP p q.n).hold), .slice al1 nl1 cl1, .slice aw1 nw1 cw1] = w115 at hC z116 hP p6 hR p8 hk2 p22 ⊢
              refine E.val (d := 23) (v := .slice ak ((keysE (p.es.filter (lateE q.n))).length) ck) (w' := w115) rfl rfl rfl hF (by exact E.xAs rfl (hF.at 127 rfl)) ?_
              clear hF a; intro a hF
              refine wpList_nil ?_
              replace hF := hF.sub (m' := [(23, .slice ak ((keysE (p.es.filter (lateE q.n))).length) ck), (22, .pointer (some ⟨w108.heap.size, 0, none⟩)), (8, .pointer (some ⟨wr.heap.size, 0, none⟩)), (7, .int .i64 (i : Int)), (1, .slice a3 ys.length c3), (5, .pointer (some ⟨pb, 0, none⟩)), (6, .pointer (some ⟨w8.heap.size, 0, none⟩))]) ⟨rfl, rfl, rfl, rfl, rfl, rfl, rfl, trivial⟩
              refine E.then_norm (hK28 _ _ ?_)
              refine wp_seq_k fun K29 hK29 => ?_
              refine wp_region_lit ?_  -- R27
              refine E.val (d := 128) (v := .agg #[.int .i64 ((expP p q.n).hold), .slice al1 nl1 cl1, .slice aw1 nw1 cw1]) (w' := w115) rfl rfl rfl hF (by exact xLoad rfl (hF.at 22 rfl) p22 Try.underlying56 rfl (by kernel_rfl)) ?_
              clear hF a; intro a hF
              refine E.eff (w' := setN w115 (w8.heap.size) 0 [.int .i64 ((expP p q.n).hold), .slice al1 nl1 cl1, .slice aw1 nw1 cw1]) rfl rfl (by exact xStore rfl (hF.at 6 rfl) (hF.at 128 rfl) p6 rfl (by kernel_rfl) rfl) ?_
              have hc117 : Chg (fun x => x = w8.heap.size) w115 (setN w115 (w8.heap.size) 0 [.int .i64 ((expP p q.n).hold), .slice al1 nl1 cl1, .slice aw1 nw1 cw1]) := setN_own _ _ _ _
              have z119 := hc117.size
              replace hP := hP.chg hc117 (fun y hy => by have hy : y = w8.heap.size := hy; subst hy; exact nb13)
              replace hR := hR.kept hc117.size (fun x hx hl => hc117.block x hl (fun hn => hx.elim (fun hx => by have hn : x = w8.heap.size := hn; obtain ⟨hx0, hx1, hx2, hx3⟩ := hx; omega) (fun hx => by (try dsimp only at hx); exact by have hn : x = w8.heap.size := hn; omega)))
              replace p8 := p8.chg hc117 (fun e => by have e : wr.heap.size = w8.heap.size := e; omega)
              replace hk2 := hk2.kept hc117.size (fun x hx hl => hc117.block x hl (fun hn => by have hn : x = w8.heap.size := hn; obtain ⟨hx0, hx1, hx2⟩ := hx; omega))
              replace p22 := p22.chg hc117 (fun e => by have e : w108.heap.size = w8.heap.size := e; omega)
              replace p6 : pts (setN w115 (w8.heap.size) 0 [.int .i64 ((expP p q.n).hold), .slice al1 nl1 cl1, .slice aw1 nw1 cw1]) (w8.heap.size) [.int .i64 ((expP p q.n).hold), .slice al1 nl1 cl1, .slice aw1 nw1 cw1] 56 := setN_pts0 p6 _ rfl
              replace hC := hC.trans hc117 (fun x hx => .inr (by omega))
              clear hc117; generalize setN w115 (w8.heap.size) 0 [.int .i64 ((expP p q.n).hold), .slice al1 nl1 cl1, .slice aw1 nw1 cw1] = w118 at hC z119 hP p6 hR p8 hk2 p22 ⊢
              refine wpList_nil ?_
              refine E.then_norm (hK29 _ _ ?_)
              refine wp_region_lit ?_  -- R28
              refine E.val (d := 129) (v := .pointer (some ⟨pb, 0, none⟩)) (w' := w118) rfl rfl rfl hF (by exact E.xMv rfl (hF.at 5 rfl)) ?_
              clear hF a; intro a hF
              refine E.val (d := 130) (v := .pointer (some ⟨wr.heap.size, 3, none⟩)) (w' := w118) rfl rfl rfl hF (by have e8 : a.tmps[8]?.getD undef = .pointer (some ⟨wr.heap.size, 0, none⟩) := hF.at 8 rfl; simp [go_sem, e8]) ?_
              clear hF a; intro a hF
              refine E.val (d := 131) (v := .int .i64 q.n) (w' := w118) rfl rfl rfl hF (by have c3 : w118.cell? ⟨wr.heap.size, 3, none⟩ = some (.int .i64 q.n) := p8.cell 3; have e130 : a.tmps[130]?.getD undef = .pointer (some ⟨wr.heap.size, 3, none⟩) := hF.at 130 rfl; simp [go_sem, e130, c3]) ?_
              clear hF a; intro a hF
              refine E.call (f := 13) (xs := #[.pointer (some ⟨pb, 0, none⟩), .int .i64 q.n]) rfl rfl rfl hF (by have e129 : a.tmps[129]?.getD undef = .pointer (some ⟨pb, 0, none⟩) := hF.at 129 rfl; have e131 : a.tmps[131]?.getD undef = .int .i64 q.n := hF.at 131 rfl; simp [go_sem, e129, e131]) (expire_x hP q.n (by omega) (by omega)) ?_
              rintro e w120 ⟨v, rfl, hk1, hP1, hc1⟩
              obtain ⟨aj, cj, rfl⟩ := hk1.shape
              have hsub : ∀ b, M_hP b → M_hP b ∨ w118.heap.size ≤ b := fun _ h => .inl h
              refine ⟨_, rfl, ?_⟩
              clear hF a; intro a hF
              have z121 := hc1.size
              have ol_p6 := p6.lt
              have ol_p8 := p8.lt
              replace p6 := p6.chg hc1 nb13.1
              replace hR := (hR.mono (okr' := fun x => (fun x => (w15.heap.size ≤ x) ∧ (¬ M_hP x) ∧ (x ≠ wr.heap.size) ∧ (x ≠ w108.heap.size)) x ∧ x < w118.heap.size) (okb' := (fun x => x < w.heap.size)) (fun x hx hl => ⟨hx, hl⟩) (fun _ h _ => h))
              replace hR := (hR.kept hc1.size (fun x hx hl => hc1.block x hl (fun hn => hx.elim (fun hx => by obtain ⟨⟨hx0, hx1, hx2, hx3⟩, hy⟩ := hx; exact hx1 hn) (fun hx => by (try dsimp only at hx); have := hge x hn; omega)))).mono (okr' := (fun x => (w15.heap.size ≤ x) ∧ (¬ M_hP x) ∧ (x ≠ wr.heap.size) ∧ (x ≠ w108.heap.size))) (okb' := (fun x => x < w.heap.size)) (fun x hx _ => by obtain ⟨⟨hx0, hx1, hx2, hx3⟩, hy⟩ := hx; exact ⟨hx0, fun e => (hsub x e).elim hx1 (fun h => by omega), hx2, hx3⟩) (fun _ h _ => h)
              replace p8 := p8.chg hc1 nb23.1
              replace hk2 := (hk2.mono (ok' := fun x => (fun x => (w28.heap.size ≤ x) ∧ (x < w108.heap.size) ∧ (¬ M_hP x)) x ∧ x < w118.heap.size) (fun x hx hl => ⟨hx, hl⟩))
              replace hk2 := (hk2.kept hc1.size (fun x hx hl => hc1.block x hl (fun hn => by obtain ⟨⟨hx0, hx1, hx2⟩, hy⟩ := hx; exact hx2 hn))).mono (ok' := (fun x => (w28.heap.size ≤ x) ∧ (x < w108.heap.size) ∧ (¬ M_hP x))) (fun x hx _ => by obtain ⟨⟨hx0, hx1, hx2⟩, hy⟩ := hx; exact ⟨hx0, hx1, fun e => (hsub x e).elim hx2 (fun h => by omega)⟩)
              replace hC := hC.trans hc1 (fun x hx => .inr (hge x hx))
              replace nb13 : ¬ M_hP (w8.heap.size) ∧ ¬ W_hP (w8.heap.size) := ⟨fun h => (hsub _ h).elim nb13.1 (fun h => by have := ol_p6; omega), nb13.2⟩
              replace nb23 : ¬ M_hP (wr.heap.size) ∧ ¬ W_hP (wr.heap.size) := ⟨fun h => (hsub _ h).elim nb23.1 (fun h => by have := ol_p8; omega), nb23.2⟩
              replace hge : ∀ x, M_hP x → w.heap.size ≤ x := fun x h => (hsub x h).elim (hge x) (fun h => by omega)
              replace hP := hP1; clear hsub hc1 ol_p6 ol_p8
              refine E.val (d := 133) (v := .slice ak ((keysE (p.es.filter (lateE q.n))).length) ck) (w' := w120) rfl rfl rfl hF (by exact E.xMv rfl (hF.at 23 rfl)) ?_
              clear hF a; intro a hF
              refine E.call (f := 23) (xs := #[.slice aj ((keysE (p.es.filter (lateE q.n))).length) cj, .slice ak ((keysE (p.es.filter (lateE q.n))).length) ck]) rfl rfl rfl hF (by have e132 : a.tmps[132]?.getD undef = .slice aj ((keysE (p.es.filter (lateE q.n))).length) cj := hF.at 132 rfl; have e133 : a.tmps[133]?.getD undef = .slice ak ((keysE (p.es.filter (lateE q.n))).length) ck := hF.at 133 rfl; simp [go_sem, e132, e133]) (ints_same hk1 hk2) ?_
              rintro e w123 ⟨rfl, hb122⟩
              refine ⟨_, rfl, ?_⟩
              clear hF a; intro a hF
              replace hP := hP.below hb122
              replace p6 := p6.below hb122
              replace hR := hR.below hb122
              replace p8 := p8.below hb122
              replace hk2 := hk2.below hb122
              replace hC := hC.below hb122
              have z124 : w120.heap.size ≤ w123.heap.size := hb122.size
              clear hb122
              refine E.val (d := 9) (v := .bool true) (w' := w123) rfl rfl rfl hF (by exact E.xAs rfl (hF.at 134 rfl)) ?_
              clear hF a; intro a hF
              refine wpList_nil ?_
              have h1 : (expP p q.n).row.length ≤ p.row.length := by show (List.foldl butT _ _).length ≤ _; rw [foldBut]; exact List.length_filter_le _ _
              have h2 : (expP p q.n).s = p.s := rfl; clear hk1 hk2
              refine E.in_norm ?_
              replace hF := hF.sub (m' := [(9, .bool true), (8, .pointer (some ⟨wr.heap.size, 0, none⟩)), (7, .int .i64 (i : Int)), (1, .slice a3 ys.length c3), (5, .pointer (some ⟨pb, 0, none⟩)), (6, .pointer (some ⟨w8.heap.size, 0, none⟩))]) ⟨rfl, rfl, rfl, rfl, rfl, rfl, trivial⟩
              refine E.then_norm (hK13 _ _ ?_)
              refine wp_seq_k fun K30 hK30 => ?_
              have hln := hR.lens.1; have hps1 : (expP p q.n).s ≤ (i : Int) + 1 := (by omega); have hpr1 : (expP p q.n).row.length ≤ i + 1 := (by omega)
              have hk39 : (!(((expP p q.n).ms.length : Int) == (nl1 : Int))) = false := by rw [show nl1 = (expP p q.n).ms.length from hln]; simp
              refine E.tab 37 [Sp.eq (.bool true), Sp.eq (.bool false), Sp.eq (.bool false), Sp.eq (.pointer (some ⟨pb, 0, none⟩)), Sp.eq (.int .i64 ((expP p q.n).ms.length : Int)), Sp.eq (.pointer (some ⟨w8.heap.size, 1, none⟩)), Sp.eq (.slice al1 nl1 cl1), Sp.eq (.int .i64 (nl1 : Int)), Sp.eq (.bool (!(((expP p q.n).ms.length : Int) == (nl1 : Int)))), Sp.eq (.bool (!(((expP p q.n).ms.length : Int) == (nl1 : Int)))), Sp.eq (.bool (!(((expP p q.n).ms.length : Int) == (nl1 : Int)))), Sp.eq (.pointer (some ⟨pb, 0, none⟩)), Sp.of (fun v u => ∃ (aA : Option Addr) (cA : Nat) (qA : List (Value × Msg)), v = .slice aA qA.length cA ∧ MsgsAt (fun _ => True) (fun _ => True) u (.slice aA qA.length cA) qA ∧ qA.map Prod.snd = (expP p q.n).ms) (fun v u u' ⟨aA, cA, qA, e_186, hAm, hAq⟩ hb => ⟨aA, cA, qA, e_186, hAm.below hb, hAq⟩), Sp.eq (.pointer (some ⟨w8.heap.size, 1, none⟩)), Sp.eq (.slice al1 nl1 cl1), Sp.eq (.bool true), Sp.eq (.bool false), Sp.eq (.bool false), Sp.eq (.bool false), Sp.eq (.pointer (some ⟨pb, 0, none⟩)), Sp.of (fun v u => ∃ (aX : Option Addr) (cX : Nat), v = .slice aX ((expP p q.n).row.length) cX ∧ IntsAt (fun _ => True) u (.slice aX (expP p q.n).row.length cX) (expP p q.n).row) (fun v u u' ⟨aX, cX, e_194, hX⟩ hb => ⟨aX, cX, e_194, hX.below hb⟩), Sp.eq (.agg #[.int .i64 ((expP p q.n).hold), .slice al1 nl1 cl1, .slice aw1 nw1 cw1]), Sp.of (fun v u => ∃ (aY : Option Addr) (cY : Nat), v = .slice aY ((expP p q.n).row.length) cY ∧ IntsAt (fun _ => True) u (.slice aY (expP p q.n).row.length cY) (expP p q.n).row) (fun v u u' ⟨aY, cY, e_196, hY⟩ hb => ⟨aY, cY, e_196, hY.below hb⟩), Sp.eq (.bool true), Sp.eq (.bool false), Sp.eq (.bool false), Sp.eq (.bool false), Sp.eq (.pointer (some ⟨pb, 0, none⟩)), Sp.eq (.pointer (some ⟨wr.heap.size, 1, none⟩)), Sp.eq (.int .i64 q.p), Sp.eq (.bool (decide (q.p ∈ (expP p q.n).row))), Sp.eq (.agg #[.int .i64 ((expP p q.n).hold), .slice al1 nl1 cl1, .slice aw1 nw1 cw1]), Sp.eq (.pointer (some ⟨wr.heap.size, 1, none⟩)), Sp.eq (.int .i64 q.p), Sp.eq (.bool (decide (q.p ∈ (expP p q.n).row))), Sp.eq (.bool false), Sp.eq (.bool false)] hF (fun _ _ _ _ _ h => h) (by kernel_rfl) (by kernel_rfl) ⟨?_, ?_, ?_, ?_, ?_, ?_, ?_, ?_, ?_, ?_, ?_, ?_, ?_, ?_, ?_, ?_, ?_, ?_, ?_, ?_, ?_, ?_, ?_, ?_, ?_, ?_, ?_, ?_, ?_, ?_, ?_, ?_, ?_, ?_, ?_, ?_, ?_, trivial⟩ ?_  -- R39
              · intro ac gs u hbO hgO hO
                refine opFree rfl ?_
                exact relRun (v := .bool true) (w' := u) (by exact E.xMv rfl ((hO.inm 9 rfl (hF.ev 9 _ rfl)))) (okP hgO rfl)
              · intro ac gs u hbO hgO hO
                refine opFree rfl ?_
                exact relRun (v := .bool false) (w' := u) (by have e174 : ac.tmps[174]?.getD undef = .bool true := (show ac.tmps[174]?.getD undef = .bool true from hO.tm 0 174 rfl rfl); simp [go_sem, e174]) (okP hgO rfl)
              · intro ac gs u hbO hgO hO
                refine opFree rfl ?_
                exact relRun (v := .bool false) (w' := u) (by exact E.xMv rfl ((show ac.tmps[175]?.getD undef = .bool false from hO.tm 1 175 rfl rfl))) (okP hgO rfl)
              · intro ac gs u hbO hgO hO
                refine opWant 2 176 rfl rfl ((show ac.tmps[176]?.getD undef = .bool false from hO.tm 2 176 rfl rfl)) ?_
                exact relRun (v := .pointer (some ⟨pb, 0, none⟩)) (w' := u) (by exact E.xMv rfl ((hO.inm 5 rfl (hF.ev 5 _ rfl)))) (okP hgO rfl)
              · intro ac gs u hbO hgO hO
                refine opWant 2 176 rfl rfl ((show ac.tmps[176]?.getD undef = .bool false from hO.tm 2 176 rfl rfl)) ?_
                refine relCall (f := 18) (args := #[.pointer (some ⟨pb, 0, none⟩)]) (by have e177 : ac.tmps[177]?.getD undef = .pointer (some ⟨pb, 0, none⟩) := (show ac.tmps[177]?.getD undef = .pointer (some ⟨pb, 0, none⟩) from hO.tm 3 177 rfl rfl); simp [go_sem, e177]) ?_
                refine Calls.mono (len_x (hP.below hbO)) ?_
                rintro e u' ⟨rfl, rfl⟩
                exact ⟨_, rfl, okP hgO rfl⟩
              · intro ac gs u hbO hgO hO
                refine opWant 2 176 rfl rfl ((show ac.tmps[176]?.getD undef = .bool false from hO.tm 2 176 rfl rfl)) ?_
                exact relRun (v := .pointer (some ⟨w8.heap.size, 1, none⟩)) (w' := u) (by have e6 : ac.tmps[6]?.getD undef = .pointer (some ⟨w8.heap.size, 0, none⟩) := (hO.inm 6 rfl (hF.ev 6 _ rfl)); simp [go_sem, e6]) (okP hgO rfl)
              · intro ac gs u hbO hgO hO
                refine opWant 2 176 rfl rfl ((show ac.tmps[176]?.getD undef = .bool false from hO.tm 2 176 rfl rfl)) ?_
                exact relRun (v := .slice al1 nl1 cl1) (w' := u) (by have c1 : u.cell? ⟨w8.heap.size, 1, none⟩ = some (.slice al1 nl1 cl1) := (p6.below hbO).cell 1; have e179 : ac.tmps[179]?.getD undef = .pointer (some ⟨w8.heap.size, 1, none⟩) := (show ac.tmps[179]?.getD undef = .pointer (some ⟨w8.heap.size, 1, none⟩) from hO.tm 5 179 rfl rfl); simp [go_sem, e179, c1]) (okP hgO rfl)
              · intro ac gs u hbO hgO hO
                refine opWant 2 176 rfl rfl ((show ac.tmps[176]?.getD undef = .bool false from hO.tm 2 176 rfl rfl)) ?_
                exact relRun (v := .int .i64 (nl1 : Int)) (w' := u) (by have e180 : ac.tmps[180]?.getD undef = .slice al1 nl1 cl1 := (show ac.tmps[180]?.getD undef = .slice al1 nl1 cl1 from hO.tm 6 180 rfl rfl); simp [go_sem, e180]) (okP hgO rfl)
              · intro ac gs u hbO hgO hO
                refine opWant 2 176 rfl rfl ((show ac.tmps[176]?.getD undef = .bool false from hO.tm 2 176 rfl rfl)) ?_
                exact relRun (v := .bool (!(((expP p q.n).ms.length : Int) == (nl1 : Int)))) (w' := u) (by have e178 : ac.tmps[178]?.getD undef = .int .i64 ((expP p q.n).ms.length : Int) := (show ac.tmps[178]?.getD undef = .int .i64 ((expP p q.n).ms.length : Int) from hO.tm 4 178 rfl rfl); have e181 : ac.tmps[181]?.getD undef = .int .i64 (nl1 : Int) := (show ac.tmps[181]?.getD undef = .int .i64 (nl1 : Int) from hO.tm 7 181 rfl rfl); simp [go_sem, e178, e181, bne]) (okP hgO rfl)
              · intro ac gs u hbO hgO hO
                refine opFree rfl ?_
                exact relRun (v := .bool (!(((expP p q.n).ms.length : Int) == (nl1 : Int)))) (w' := u) (by have e176 : ac.tmps[176]?.getD undef = .bool false := (show ac.tmps[176]?.getD undef = .bool false from hO.tm 2 176 rfl rfl); have e182 : ac.tmps[182]?.getD undef = .bool (!(((expP p q.n).ms.length : Int) == (nl1 : Int))) := (show ac.tmps[182]?.getD undef = .bool (!(((expP p q.n).ms.length : Int) == (nl1 : Int))) from hO.tm 8 182 rfl rfl); simp [go_sem, e176, e182]) (okP hgO rfl)
              · intro ac gs u hbO hgO hO
                refine opFree rfl ?_
                exact relRun (v := .bool (!(((expP p q.n).ms.length : Int) == (nl1 : Int)))) (w' := u) (by exact E.xMv rfl ((show ac.tmps[183]?.getD undef = .bool (!(((expP p q.n).ms.length : Int) == (nl1 : Int))) from hO.tm 9 183 rfl rfl))) (okP hgO rfl)
              · intro ac gs u hbO hgO hO
                refine opWant 10 184 rfl rfl ((((show ac.tmps[184]?.getD undef = .bool (!(((expP p q.n).ms.length : Int) == (nl1 : Int))) from hO.tm 10 184 rfl rfl)).trans (congrArg Value.bool hk39))) ?_
                exact relRun (v := .pointer (some ⟨pb, 0, none⟩)) (w' := u) (by exact E.xMv rfl ((hO.inm 5 rfl (hF.ev 5 _ rfl)))) (okP hgO rfl)
              · intro ac gs u hbO hgO hO
                refine opWant 10 184 rfl rfl ((((show ac.tmps[184]?.getD undef = .bool (!(((expP p q.n).ms.length : Int) == (nl1 : Int))) from hO.tm 10 184 rfl rfl)).trans (congrArg Value.bool hk39))) ?_
                refine relCall (f := 20) (args := #[.pointer (some ⟨pb, 0, none⟩)]) (by have e185 : ac.tmps[185]?.getD undef = .pointer (some ⟨pb, 0, none⟩) := (show ac.tmps[185]?.getD undef = .pointer (some ⟨pb, 0, none⟩) from hO.tm 11 185 rfl rfl); simp [go_sem, e185]) ?_
                refine Calls.mono (all_x (hP.below hbO)) ?_
                rintro e u' ⟨v, qA, rfl, hAq, hAm, hb125⟩
                obtain ⟨aA, cA, rfl⟩ := hAm.shape
                exact ⟨_, rfl, okB hgO hb125 ⟨_, _, _, rfl, hAm.mono (fun _ _ _ => trivial) (fun _ _ _ => trivial), hAq⟩⟩
              · intro ac gs u hbO hgO hO
                refine opWant 10 184 rfl rfl ((((show ac.tmps[184]?.getD undef = .bool (!(((expP p q.n).ms.length : Int) == (nl1 : Int))) from hO.tm 10 184 rfl rfl)).trans (congrArg Value.bool hk39))) ?_
                exact relRun (v := .pointer (some ⟨w8.heap.size, 1, none⟩)) (w' := u) (by have e6 : ac.tmps[6]?.getD undef = .pointer (some ⟨w8.heap.size, 0, none⟩) := (hO.inm 6 rfl (hF.ev 6 _ rfl)); simp [go_sem, e6]) (okP hgO rfl)
              · intro ac gs u hbO hgO hO
                refine opWant 10 184 rfl rfl ((((show ac.tmps[184]?.getD undef = .bool (!(((expP p q.n).ms.length : Int) == (nl1 : Int))) from hO.tm 10 184 rfl rfl)).trans (congrArg Value.bool hk39))) ?_
                exact relRun (v := .slice al1 nl1 cl1) (w' := u) (by have c1 : u.cell? ⟨w8.heap.size, 1, none⟩ = some (.slice al1 nl1 cl1) := (p6.below hbO).cell 1; have e187 : ac.tmps[187]?.getD undef = .pointer (some ⟨w8.heap.size, 1, none⟩) := (show ac.tmps[187]?.getD undef = .pointer (some ⟨w8.heap.size, 1, none⟩) from hO.tm 13 187 rfl rfl); simp [go_sem, e187, c1]) (okP hgO rfl)
              · intro ac gs u hbO hgO hO
                obtain ⟨aA, cA, qA, e_186, hAm, hAq⟩ := hO.tm 12 186 rfl rfl
                refine opWant 10 184 rfl rfl ((((show ac.tmps[184]?.getD undef = .bool (!(((expP p q.n).ms.length : Int) == (nl1 : Int))) from hO.tm 10 184 rfl rfl)).trans (congrArg Value.bool hk39))) ?_
                refine relCall (f := 22) (args := #[.slice aA qA.length cA, .slice al1 nl1 cl1]) (by have e186 : ac.tmps[186]?.getD undef = .slice aA qA.length cA := e_186; have e188 : ac.tmps[188]?.getD undef = .slice al1 nl1 cl1 := (show ac.tmps[188]?.getD undef = .slice al1 nl1 cl1 from hO.tm 14 188 rfl rfl); simp [go_sem, e186, e188]) ?_
                refine Calls.mono (same_ref hAm hAq (hR.below hbO)) ?_
                rintro e u' ⟨rfl, hb126⟩
                exact ⟨_, rfl, okB hgO hb126 rfl⟩
              · intro ac gs u hbO hgO hO
                refine opWant 10 184 rfl rfl ((((show ac.tmps[184]?.getD undef = .bool (!(((expP p q.n).ms.length : Int) == (nl1 : Int))) from hO.tm 10 184 rfl rfl)).trans (congrArg Value.bool hk39))) ?_
                exact relRun (v := .bool false) (w' := u) (by have e189 : ac.tmps[189]?.getD undef = .bool true := (show ac.tmps[189]?.getD undef = .bool true from hO.tm 15 189 rfl rfl); simp [go_sem, e189]) (okP hgO rfl)
              · intro ac gs u hbO hgO hO
                refine opFree rfl ?_
                exact relRun (v := .bool false) (w' := u) (by have e184 : ac.tmps[184]?.getD undef = .bool (!(((expP p q.n).ms.length : Int) == (nl1 : Int))) := (show ac.tmps[184]?.getD undef = .bool (!(((expP p q.n).ms.length : Int) == (nl1 : Int))) from hO.tm 10 184 rfl rfl); have e190 : ac.tmps[190]?.getD undef = .bool false := (show ac.tmps[190]?.getD undef = .bool false from hO.tm 16 190 rfl rfl); simp [go_sem, e184, e190, hk39]) (okP hgO rfl)
              · intro ac gs u hbO hgO hO
                refine opFree rfl ?_
                exact relRun (v := .bool false) (w' := u) (by exact E.xMv rfl ((show ac.tmps[191]?.getD undef = .bool false from hO.tm 17 191 rfl rfl))) (okP hgO rfl)
              · intro ac gs u hbO hgO hO
                refine opWant 18 192 rfl rfl ((show ac.tmps[192]?.getD undef = .bool false from hO.tm 18 192 rfl rfl)) ?_
                exact relRun (v := .pointer (some ⟨pb, 0, none⟩)) (w' := u) (by exact E.xMv rfl ((hO.inm 5 rfl (hF.ev 5 _ rfl)))) (okP hgO rfl)
              · intro ac gs u hbO hgO hO
                refine opWant 18 192 rfl rfl ((show ac.tmps[192]?.getD undef = .bool false from hO.tm 18 192 rfl rfl)) ?_
                refine relCall (f := 11) (args := #[.pointer (some ⟨pb, 0, none⟩)]) (by have e193 : ac.tmps[193]?.getD undef = .pointer (some ⟨pb, 0, none⟩) := (show ac.tmps[193]?.getD undef = .pointer (some ⟨pb, 0, none⟩) from hO.tm 19 193 rfl rfl); simp [go_sem, e193]) ?_
                refine Calls.mono (waiting_x (hP.below hbO) (by omega)) ?_
                rintro e u' ⟨v, rfl, hX, hb127⟩
                obtain ⟨aX, cX, rfl⟩ := hX.shape
                exact ⟨_, rfl, okB hgO hb127 ⟨_, _, rfl, hX.mono (fun _ _ _ => trivial)⟩⟩
              · intro ac gs u hbO hgO hO
                refine opWant 18 192 rfl rfl ((show ac.tmps[192]?.getD undef = .bool false from hO.tm 18 192 rfl rfl)) ?_
                exact relRun (v := .agg #[.int .i64 ((expP p q.n).hold), .slice al1 nl1 cl1, .slice aw1 nw1 cw1]) (w' := u) (by exact xLoad rfl ((hO.inm 6 rfl (hF.ev 6 _ rfl))) (p6.below hbO) Try.underlying56 rfl (by kernel_rfl)) (okP hgO rfl)
              · intro ac gs u hbO hgO hO
                refine opWant 18 192 rfl rfl ((show ac.tmps[192]?.getD undef = .bool false from hO.tm 18 192 rfl rfl)) ?_
                refine relCall (f := 30) (args := #[.agg #[.int .i64 ((expP p q.n).hold), .slice al1 nl1 cl1, .slice aw1 nw1 cw1]]) (by have e195 : ac.tmps[195]?.getD undef = .agg #[.int .i64 ((expP p q.n).hold), .slice al1 nl1 cl1, .slice aw1 nw1 cw1] := (show ac.tmps[195]?.getD undef = .agg #[.int .i64 ((expP p q.n).hold), .slice al1 nl1 cl1, .slice aw1 nw1 cw1] from hO.tm 21 195 rfl rfl); simp [go_sem, e195]) ?_
                refine Calls.mono (waiting_p (hR.below hbO) _ (by omega)) ?_
                rintro e u' ⟨v, rfl, hY, hb128⟩
                obtain ⟨aY, cY, rfl⟩ := hY.shape
                exact ⟨_, rfl, okB hgO hb128 ⟨_, _, rfl, hY.mono (fun _ _ _ => trivial)⟩⟩
              · intro ac gs u hbO hgO hO
                obtain ⟨aX, cX, e_194, hX⟩ := hO.tm 20 194 rfl rfl
                obtain ⟨aY, cY, e_196, hY⟩ := hO.tm 22 196 rfl rfl
                refine opWant 18 192 rfl rfl ((show ac.tmps[192]?.getD undef = .bool false from hO.tm 18 192 rfl rfl)) ?_
                refine relCall (f := 23) (args := #[.slice aX ((expP p q.n).row.length) cX, .slice aY ((expP p q.n).row.length) cY]) (by have e194 : ac.tmps[194]?.getD undef = .slice aX ((expP p q.n).row.length) cX := e_194; have e196 : ac.tmps[196]?.getD undef = .slice aY ((expP p q.n).row.length) cY := e_196; simp [go_sem, e194, e196]) ?_
                refine Calls.mono (ints_same hX hY) ?_
                rintro e u' ⟨rfl, hb129⟩
                exact ⟨_, rfl, okB hgO hb129 rfl⟩
              · intro ac gs u hbO hgO hO
                refine opWant 18 192 rfl rfl ((show ac.tmps[192]?.getD undef = .bool false from hO.tm 18 192 rfl rfl)) ?_
                exact relRun (v := .bool false) (w' := u) (by have e197 : ac.tmps[197]?.getD undef = .bool true := (show ac.tmps[197]?.getD undef = .bool true from hO.tm 23 197 rfl rfl); simp [go_sem, e197]) (okP hgO rfl)
              · intro ac gs u hbO hgO hO
                refine opFree rfl ?_
                exact relRun (v := .bool false) (w' := u) (by have e192 : ac.tmps[192]?.getD undef = .bool false := (show ac.tmps[192]?.getD undef = .bool false from hO.tm 18 192 rfl rfl); have e198 : ac.tmps[198]?.getD undef = .bool false := (show ac.tmps[198]?.getD undef = .bool false from hO.tm 24 198 rfl rfl); simp [go_sem, e192, e198]) (okP hgO rfl)
              · intro ac gs u hbO hgO hO
                refine opFree rfl ?_
                exact relRun (v := .bool false) (w' := u) (by exact E.xMv rfl ((show ac.tmps[199]?.getD undef = .bool false from hO.tm 25 199 rfl rfl))) (okP hgO rfl)
              · intro ac gs u hbO hgO hO
                refine opWant 26 200 rfl rfl ((show ac.tmps[200]?.getD undef = .bool false from hO.tm 26 200 rfl rfl)) ?_
                exact relRun (v := .pointer (some ⟨pb, 0, none⟩)) (w' := u) (by exact E.xMv rfl ((hO.inm 5 rfl (hF.ev 5 _ rfl)))) (okP hgO rfl)
              · intro ac gs u hbO hgO hO
                refine opWant 26 200 rfl rfl ((show ac.tmps[200]?.getD undef = .bool false from hO.tm 26 200 rfl rfl)) ?_
                exact relRun (v := .pointer (some ⟨wr.heap.size, 1, none⟩)) (w' := u) (by have e8 : ac.tmps[8]?.getD undef = .pointer (some ⟨wr.heap.size, 0, none⟩) := (hO.inm 8 rfl (hF.ev 8 _ rfl)); simp [go_sem, e8]) (okP hgO rfl)
              · intro ac gs u hbO hgO hO
                refine opWant 26 200 rfl rfl ((show ac.tmps[200]?.getD undef = .bool false from hO.tm 26 200 rfl rfl)) ?_
                exact relRun (v := .int .i64 q.p) (w' := u) (by have c1 : u.cell? ⟨wr.heap.size, 1, none⟩ = some (.int .i64 q.p) := (p8.below hbO).cell 1; have e202 : ac.tmps[202]?.getD undef = .pointer (some ⟨wr.heap.size, 1, none⟩) := (show ac.tmps[202]?.getD undef = .pointer (some ⟨wr.heap.size, 1, none⟩) from hO.tm 28 202 rfl rfl); simp [go_sem, e202, c1]) (okP hgO rfl)
              · intro ac gs u hbO hgO hO
                refine opWant 26 200 rfl rfl ((show ac.tmps[200]?.getD undef = .bool false from hO.tm 26 200 rfl rfl)) ?_
                refine relCall (f := 19) (args := #[.pointer (some ⟨pb, 0, none⟩), .int .i64 q.p]) (by have e201 : ac.tmps[201]?.getD undef = .pointer (some ⟨pb, 0, none⟩) := (show ac.tmps[201]?.getD undef = .pointer (some ⟨pb, 0, none⟩) from hO.tm 27 201 rfl rfl); have e203 : ac.tmps[203]?.getD undef = .int .i64 q.p := (show ac.tmps[203]?.getD undef = .int .i64 q.p from hO.tm 29 203 rfl rfl); simp [go_sem, e201, e203]) ?_
                refine Calls.mono (waits_x (hP.below hbO) _) ?_
                rintro e u' ⟨rfl, rfl⟩
                exact ⟨_, rfl, okP hgO rfl⟩
              · intro ac gs u hbO hgO hO
                refine opWant 26 200 rfl rfl ((show ac.tmps[200]?.getD undef = .bool false from hO.tm 26 200 rfl rfl)) ?_
                exact relRun (v := .agg #[.int .i64 ((expP p q.n).hold), .slice al1 nl1 cl1, .slice aw1 nw1 cw1]) (w' := u) (by exact xLoad rfl ((hO.inm 6 rfl (hF.ev 6 _ rfl))) (p6.below hbO) Try.underlying56 rfl (by kernel_rfl)) (okP hgO rfl)
              · intro ac gs u hbO hgO hO
                refine opWant 26 200 rfl rfl ((show ac.tmps[200]?.getD undef = .bool false from hO.tm 26 200 rfl rfl)) ?_
                exact relRun (v := .pointer (some ⟨wr.heap.size, 1, none⟩)) (w' := u) (by have e8 : ac.tmps[8]?.getD undef = .pointer (some ⟨wr.heap.size, 0, none⟩) := (hO.inm 8 rfl (hF.ev 8 _ rfl)); simp [go_sem, e8]) (okP hgO rfl)
              · intro ac gs u hbO hgO hO
                refine opWant 26 200 rfl rfl ((show ac.tmps[200]?.getD undef = .bool false from hO.tm 26 200 rfl rfl)) ?_
                exact relRun (v := .int .i64 q.p) (w' := u) (by have c1 : u.cell? ⟨wr.heap.size, 1, none⟩ = some (.int .i64 q.p) := (p8.below hbO).cell 1; have e206 : ac.tmps[206]?.getD undef = .pointer (some ⟨wr.heap.size, 1, none⟩) := (show ac.tmps[206]?.getD undef = .pointer (some ⟨wr.heap.size, 1, none⟩) from hO.tm 32 206 rfl rfl); simp [go_sem, e206, c1]) (okP hgO rfl)
              · intro ac gs u hbO hgO hO
                refine opWant 26 200 rfl rfl ((show ac.tmps[200]?.getD undef = .bool false from hO.tm 26 200 rfl rfl)) ?_
                refine relCall (f := 31) (args := #[.agg #[.int .i64 ((expP p q.n).hold), .slice al1 nl1 cl1, .slice aw1 nw1 cw1], .int .i64 q.p]) (by have e205 : ac.tmps[205]?.getD undef = .agg #[.int .i64 ((expP p q.n).hold), .slice al1 nl1 cl1, .slice aw1 nw1 cw1] := (show ac.tmps[205]?.getD undef = .agg #[.int .i64 ((expP p q.n).hold), .slice al1 nl1 cl1, .slice aw1 nw1 cw1] from hO.tm 31 205 rfl rfl); have e207 : ac.tmps[207]?.getD undef = .int .i64 q.p := (show ac.tmps[207]?.getD undef = .int .i64 q.p from hO.tm 33 207 rfl rfl); simp [go_sem, e205, e207]) ?_
                refine Calls.mono (waits_p (hR.below hbO) _ _) ?_
                rintro e u' ⟨rfl, hb130⟩
                exact ⟨_, rfl, okB hgO hb130 rfl⟩
              · intro ac gs u hbO hgO hO
                refine opWant 26 200 rfl rfl ((show ac.tmps[200]?.getD undef = .bool false from hO.tm 26 200 rfl rfl)) ?_
                exact relRun (v := .bool false) (w' := u) (by have e204 : ac.tmps[204]?.getD undef = .bool (decide (q.p ∈ (expP p q.n).row)) := (show ac.tmps[204]?.getD undef = .bool (decide (q.p ∈ (expP p q.n).row)) from hO.tm 30 204 rfl rfl); have e208 : ac.tmps[208]?.getD undef = .bool (decide (q.p ∈ (expP p q.n).row)) := (show ac.tmps[208]?.getD undef = .bool (decide (q.p ∈ (expP p q.n).row)) from hO.tm 34 208 rfl rfl); simp [go_sem, e204, e208]) (okP hgO rfl)
              · intro ac gs u hbO hgO hO
                refine opFree rfl ?_
                exact relRun (v := .bool false) (w' := u) (by have e200 : ac.tmps[200]?.getD undef = .bool false := (show ac.tmps[200]?.getD undef = .bool false from hO.tm 26 200 rfl rfl); have e209 : ac.tmps[209]?.getD undef = .bool false := (show ac.tmps[209]?.getD undef = .bool false from hO.tm 35 209 rfl rfl); simp [go_sem, e200, e209]) (okP hgO rfl)
              intro vs gs w131 hb132 hgO hrO
              have r0 : vs 0 = .bool true := hrO 0 (by decide)
              have r1 : vs 1 = .bool false := hrO 1 (by decide)
              have r2 : vs 2 = .bool false := hrO 2 (by decide)
              have r3 : vs 3 = .pointer (some ⟨pb, 0, none⟩) := hrO 3 (by decide)
              have r4 : vs 4 = .int .i64 ((expP p q.n).ms.length : Int) := hrO 4 (by decide)
              have r5 : vs 5 = .pointer (some ⟨w8.heap.size, 1, none⟩) := hrO 5 (by decide)
              have r6 : vs 6 = .slice al1 nl1 cl1 := hrO 6 (by decide)
              have r7 : vs 7 = .int .i64 (nl1 : Int) := hrO 7 (by decide)
              have r8 : vs 8 = .bool (!(((expP p q.n).ms.length : Int) == (nl1 : Int))) := hrO 8 (by decide)
              have r9 : vs 9 = .bool (!(((expP p q.n).ms.length : Int) == (nl1 : Int))) := hrO 9 (by decide)
              have r10 : vs 10 = .bool (!(((expP p q.n).ms.length : Int) == (nl1 : Int))) := hrO 10 (by decide)
              have r11 : vs 11 = .pointer (some ⟨pb, 0, none⟩) := hrO 11 (by decide)
              have r13 : vs 13 = .pointer (some ⟨w8.heap.size, 1, none⟩) := hrO 13 (by decide)
              have r14 : vs 14 = .slice al1 nl1 cl1 := hrO 14 (by decide)
              have r15 : vs 15 = .bool true := hrO 15 (by decide)
              have r16 : vs 16 = .bool false := hrO 16 (by decide)
              have r17 : vs 17 = .bool false := hrO 17 (by decide)
              have r18 : vs 18 = .bool false := hrO 18 (by decide)
              have r19 : vs 19 = .pointer (some ⟨pb, 0, none⟩) := hrO 19 (by decide)
              have r21 : vs 21 = .agg #[.int .i64 ((expP p q.n).hold), .slice al1 nl1 cl1, .slice aw1 nw1 cw1] := hrO 21 (by decide)
              have r23 : vs 23 = .bool true := hrO 23 (by decide)
              have r24 : vs 24 = .bool false := hrO 24 (by decide)
              have r25 : vs 25 = .bool false := hrO 25 (by decide)
              have r26 : vs 26 = .bool false := hrO 26 (by decide)
              have r27 : vs 27 = .pointer (some ⟨pb, 0, none⟩) := hrO 27 (by decide)
              have r28 : vs 28 = .pointer (some ⟨wr.heap.size, 1, none⟩) := hrO 28 (by decide)
              have r29 : vs 29 = .int .i64 q.p := hrO 29 (by decide)
              have r30 : vs 30 = .bool (decide (q.p ∈ (expP p q.n).row)) := hrO 30 (by decide)
              have r31 : vs 31 = .agg #[.int .i64 ((expP p q.n).hold), .slice al1 nl1 cl1, .slice aw1 nw1 cw1] := hrO 31 (by decide)
              have r32 : vs 32 = .pointer (some ⟨wr.heap.size, 1, none⟩) := hrO 32 (by decide)
              have r33 : vs 33 = .int .i64 q.p := hrO 33 (by decide)
              have r34 : vs 34 = .bool (decide (q.p ∈ (expP p q.n).row)) := hrO 34 (by decide)
              have r35 : vs 35 = .bool false := hrO 35 (by decide)
              have r36 : vs 36 = .bool false := hrO 36 (by decide)
              intro a hF'; clear hF hrO; have hF := hF'; clear hF'
              simp only [List.take_succ_cons, List.take_zero, E.putsM, r0, r1, r2, r3, r4, r5, r6, r7, r8, r9, r10, r11, r13, r14, r15, r16, r17, r18, r19, r21, r23, r24, r25, r26, r27, r28, r29, r30, r31, r32, r33, r34, r35, r36] at hF
              clear r0 r1 r2 r3 r4 r5 r6 r7 r8 r9 r10 r11 r13 r14 r15 r16 r17 r18 r19 r21 r23 r24 r25 r26 r27 r28 r29 r30 r31 r32 r33 r34 r35 r36
              replace hP := hP.below hb132
              replace p6 := p6.below hb132
              replace hR := hR.below hb132
              replace p8 := p8.below hb132
              replace hC := hC.below hb132
              have z133 : w123.heap.size ≤ w131.heap.size := hb132.size
              clear hb132 hgO
              simp only [List.drop_succ_cons, List.drop_zero]
              refine wpList_nil ?_
              replace hF := hF.sub (m' := [(210, .bool false), (7, .int .i64 (i : Int)), (1, .slice a3 ys.length c3), (5, .pointer (some ⟨pb, 0, none⟩)), (6, .pointer (some ⟨w8.heap.size, 0, none⟩))]) ⟨rfl, rfl, rfl, rfl, rfl, trivial⟩
              refine E.then_norm (hK30 _ _ ?_)
              refine E.condF rfl (hF.at 210 rfl) ?_
              refine wp_skip ?_
              refine E.in_norm ?_
              refine E.then_norm (hK10 _ _ ?_)
              refine wp_region_lit ?_  -- R7
              refine E.val (d := 40) (v := .int .i64 (i : Int)) (w' := w131) rfl rfl rfl hF (by exact E.xMv rfl (hF.at 7 rfl)) ?_
              clear hF a; intro a hF
              refine E.val (d := 41) (v := .int .i64 ((i : Int) + 1)) (w' := w131) rfl rfl rfl hF (by have hr : IntKind.i64.wrap ((i : Int) + 1) = (i : Int) + 1 := E.wrapI (by omega) (by omega); have e40 : a.tmps[40]?.getD undef = .int .i64 (i : Int) := hF.at 40 rfl; simp [go_sem, e40, hr]) ?_
              clear hF a; intro a hF
              refine E.val (d := 7) (v := .int .i64 ((i : Int) + 1)) (w' := w131) rfl rfl rfl hF (by exact E.xAs rfl (hF.at 41 rfl)) ?_
              clear hF a; intro a hF
              refine wpList_nil ?_
              refine E.then_norm ?_
              replace hR := hR.mono (okr' := (fun x => (w15.heap.size ≤ x) ∧ (¬ M_hP x))) (okb' := (fun x => x < w.heap.size)) (fun x hx hl => by obtain ⟨hx0, hx1, hx2, hx3⟩ := hx; exact ⟨hx0, hx1⟩) (fun _ h _ => h)
              exact ⟨_, by omega, i + 1, al1, nl1, cl1, aw1, nw1, cw1, (expP p q.n), M_hP, W_hP, rfl, hF.sub (by exact ⟨rfl, rfl, rfl, rfl, trivial⟩), hC, by omega, hP, p6, hR, by omega, by omega, by omega, hge, nb13⟩
            ·
              refine E.condF rfl (((hF.at 119 rfl).trans (congrArg Value.bool hc106))) ?_
              refine wp_seq_k fun K31 hK31 => ?_
              refine wp_region_lit ?_  -- R29
              refine E.val (d := 136) (v := .bool (K == 7)) (w' := w28) rfl rfl rfl hF (by have e47 : a.tmps[47]?.getD undef = .int .i64 K := hF.at 47 rfl; simp [go_sem, e47]) ?_
              clear hF a; intro a hF
              refine E.val (d := 135) (v := .bool (K == 7)) (w' := w28) rfl rfl rfl hF (by exact E.xAs rfl (hF.at 136 rfl)) ?_
              clear hF a; intro a hF
              refine wpList_nil ?_
              refine E.then_norm (hK31 _ _ ?_)
              rcases E.bsplit (K == 7) with hc134 | hc134
              ·
                refine E.condT rfl (((hF.at 135 rfl).trans (congrArg Value.bool hc134))) ?_
                refine wp_seq_k fun K32 hK32 => ?_
                have hPlt := hP.lt; have hroom := hP.inv.room; have hhold := hP.inv.hold.2
                refine wp_region_lit ?_  -- R30
                refine E.val (d := 138) (v := .agg #[.int .i64 p.hold, .slice al nl cl, .slice aw nw cw]) (w' := w28) rfl rfl rfl hF (by exact xLoad rfl (hF.at 6 rfl) p6 Try.underlying56 rfl (by kernel_rfl)) ?_
                clear hF a; intro a hF
                refine E.val (d := 139) (v := .pointer (some ⟨wr.heap.size, 3, none⟩)) (w' := w28) rfl rfl rfl hF (by have e8 : a.tmps[8]?.getD undef = .pointer (some ⟨wr.heap.size, 0, none⟩) := hF.at 8 rfl; simp [go_sem, e8]) ?_
                clear hF a; intro a hF
                refine E.val (d := 140) (v := .int .i64 q.n) (w' := w28) rfl rfl rfl hF (by have c3 : w28.cell? ⟨wr.heap.size, 3, none⟩ = some (.int .i64 q.n) := p8.cell 3; have e139 : a.tmps[139]?.getD undef = .pointer (some ⟨wr.heap.size, 3, none⟩) := hF.at 139 rfl; simp [go_sem, e139, c3]) ?_
                clear hF a; intro a hF
                refine E.call (f := 29) (xs := #[.agg #[.int .i64 p.hold, .slice al nl cl, .slice aw nw cw], .int .i64 q.n]) rfl rfl rfl hF (by have e138 : a.tmps[138]?.getD undef = .agg #[.int .i64 p.hold, .slice al nl cl, .slice aw nw cw] := hF.at 138 rfl; have e140 : a.tmps[140]?.getD undef = .int .i64 q.n := hF.at 140 rfl; simp [go_sem, e138, e140]) (sweep_p hR (by omega) q.n) ?_
                rintro e w136 ⟨v, v2, qk, rfl, ⟨al1, nl1, cl1, aw1, nw1, cw1, rfl, hR2⟩, hm2, hq2, hb135⟩
                obtain ⟨ak, ck, rfl⟩ := hm2.shape
                refine ⟨_, rfl, ?_⟩
                clear hF a; intro a hF
                replace hP := hP.below hb135
                replace p6 := p6.below hb135
                replace hR := hR.below hb135
                replace p8 := p8.below hb135
                replace hC := hC.below hb135
                have z137 : w28.heap.size ≤ w136.heap.size := hb135.size
                clear hb135
                have hz : w28.heap.size ≤ w136.heap.size := by omega
                clear hR; have hR := hR2.mono (okr' := (fun x => (w15.heap.size ≤ x) ∧ (¬ M_hP x) ∧ (x ≠ wr.heap.size))) (okb' := (fun x => x < w.heap.size)) (fun x hx hl => by exact hx.elim (fun hx => by obtain ⟨hx0, hx1, hx2⟩ := hx; exact ⟨hx0, hx1, hx2⟩) (fun hx => ⟨by omega, fun hm => by have := hPlt x (.inl hm); omega, by omega⟩)) (fun _ h _ => h)
                clear hR2 hz
                replace hm2 := hm2.mono (ok' := (fun x => (w28.heap.size ≤ x) ∧ (x < w136.heap.size) ∧ (¬ M_hP x))) (okw' := (fun x => x < w.heap.size)) (fun x hx hl => ⟨hx, hl, fun hm => by have := hPlt x (.inl hm); omega⟩) (fun _ h _ => h)
                refine E.val (d := 137) (v := .tuple #[.agg #[.int .i64 p.hold, .slice al1 nl1 cl1, .slice aw1 nw1 cw1], .slice ak qk.length ck]) (w' := w136) rfl rfl rfl hF (by exact E.xMv rfl (hF.at 141 rfl)) ?_
                clear hF a; intro a hF
                refine E.val (d := 142) (v := .agg #[.int .i64 p.hold, .slice al1 nl1 cl1, .slice aw1 nw1 cw1]) (w' := w136) rfl rfl rfl hF (by exact E.xExt (xs := [.agg #[.int .i64 p.hold, .slice al1 nl1 cl1, .slice aw1 nw1 cw1], .slice ak qk.length ck]) rfl (hF.at 137 rfl) rfl) ?_
                clear hF a; intro a hF
                refine E.val (d := 143) (v := .slice ak qk.length ck) (w' := w136) rfl rfl rfl hF (by exact E.xExt (xs := [.agg #[.int .i64 p.hold, .slice al1 nl1 cl1, .slice aw1 nw1 cw1], .slice ak qk.length ck]) rfl (hF.at 137 rfl) rfl) ?_
                clear hF a; intro a hF
                refine E.val (d := 24) (v := .pointer (some ⟨w136.heap.size, 0, none⟩)) (w' := w136.alloc (.cells #[.int .i64 0, .slice none 0 0, .slice none 0 0] 56)) rfl rfl rfl hF (by simp [go_sem]) ?_
                clear hF a; intro a hF
                have hb138 := (Below.refl w136.heap.size w136).alloc (Nat.le_refl _) (.cells #[.int .i64 0, .slice none 0 0, .slice none 0 0] 56)
                have p24 : pts (w136.alloc (.cells #[.int .i64 0, .slice none 0 0, .slice none 0 0] 56)) (w136.heap.size) [.int .i64 0, .slice none 0 0, .slice none 0 0] 56 := pts.newA w136 #[.int .i64 0, .slice none 0 0, .slice none 0 0] 56
                have z139 : w136.heap.size < (w136.alloc (.cells #[.int .i64 0, .slice none 0 0, .slice none 0 0] 56)).heap.size := by simp
                have nb141 : ¬ M_hP (w136.heap.size) ∧ ¬ W_hP (w136.heap.size) := ⟨fun hm => by have := hP.lt (w136.heap.size) (.inl hm); omega, fun hm => by have := hP.lt (w136.heap.size) (.inr hm); omega⟩
                replace hR := hR.mono (okr' := (fun x => (w15.heap.size ≤ x) ∧ (¬ M_hP x) ∧ (x ≠ wr.heap.size) ∧ (x ≠ w136.heap.size))) (okb' := (fun x => x < w.heap.size)) (fun x hx hl => by obtain ⟨hx0, hx1, hx2⟩ := hx; exact ⟨hx0, hx1, hx2, (by omega)⟩) (fun _ h _ => h)
                replace hP := hP.below hb138
                replace p6 := p6.below hb138
                replace hR := hR.below hb138
                replace p8 := p8.below hb138
                replace hm2 := hm2.below hb138
                replace hC := hC.below hb138
                clear hb138; generalize w136.alloc (.cells #[.int .i64 0, .slice none 0 0, .slice none 0 0] 56) = w140 at p24 z139 hC hP p6 hR p8 hm2 ⊢
                refine E.eff (w' := setN w140 (w136.heap.size) 0 [.int .i64 p.hold, .slice al1 nl1 cl1, .slice aw1 nw1 cw1]) rfl rfl (by exact xStore rfl (hF.at 24 rfl) (hF.at 142 rfl) p24 rfl (by kernel_rfl) rfl) ?_
                have hc142 : Chg (fun x => x = w136.heap.size) w140 (setN w140 (w136.heap.size) 0 [.int .i64 p.hold, .slice al1 nl1 cl1, .slice aw1 nw1 cw1]) := setN_own _ _ _ _
                have z144 := hc142.size
                replace hP := hP.chg hc142 (fun y hy => by have hy : y = w136.heap.size := hy; subst hy; exact nb141)
                replace p6 := p6.chg hc142 (fun e => by have e : w8.heap.size = w136.heap.size := e; omega)
                replace hR := hR.kept hc142.size (fun x hx hl => hc142.block x hl (fun hn => hx.elim (fun hx => by have hn : x = w136.heap.size := hn; obtain ⟨hx0, hx1, hx2, hx3⟩ := hx; omega) (fun hx => by (try dsimp only at hx); exact by have hn : x = w136.heap.size := hn; omega)))
                replace p8 := p8.chg hc142 (fun e => by have e : wr.heap.size = w136.heap.size := e; omega)
                replace hm2 := hm2.kept hc142.size (fun x hx hl => hc142.block x hl (fun hn => hx.elim (fun hx => by have hn : x = w136.heap.size := hn; obtain ⟨hx0, hx1, hx2⟩ := hx; omega) (fun hx => by (try dsimp only at hx); exact by have hn : x = w136.heap.size := hn; omega)))
                replace p24 : pts (setN w140 (w136.heap.size) 0 [.int .i64 p.hold, .slice al1 nl1 cl1, .slice aw1 nw1 cw1]) (w136.heap.size) [.int .i64 p.hold, .slice al1 nl1 cl1, .slice aw1 nw1 cw1] 56 := setN_pts0 p24 _ rfl
                replace hC := hC.trans hc142 (fun x hx => .inr (by omega))
                clear hc142; generalize setN w140 (w136.heap.size) 0 [.int .i64 p.hold, .slice al1 nl1 cl1, .slice aw1 nw1 cw1] = w143 at hC z144 hP p6 hR p8 hm2 p24 ⊢
                refine E.val (d := 25) (v := .slice ak qk.length ck) (w' := w143) rfl rfl rfl hF (by exact E.xAs rfl (hF.at 143 rfl)) ?_
                clear hF a; intro a hF
                refine wpList_nil ?_
                replace hF := hF.sub (m' := [(25, .slice ak qk.length ck), (24, .pointer (some ⟨w136.heap.size, 0, none⟩)), (8, .pointer (some ⟨wr.heap.size, 0, none⟩)), (7, .int .i64 (i : Int)), (1, .slice a3 ys.length c3), (5, .pointer (some ⟨pb, 0, none⟩)), (6, .pointer (some ⟨w8.heap.size, 0, none⟩))]) ⟨rfl, rfl, rfl, rfl, rfl, rfl, rfl, trivial⟩
                refine E.then_norm (hK32 _ _ ?_)
                refine wp_seq_k fun K33 hK33 => ?_
                refine wp_region_lit ?_  -- R31
                refine E.val (d := 144) (v := .agg #[.int .i64 p.hold, .slice al1 nl1 cl1, .slice aw1 nw1 cw1]) (w' := w143) rfl rfl rfl hF (by exact xLoad rfl (hF.at 24 rfl) p24 Try.underlying56 rfl (by kernel_rfl)) ?_
                clear hF a; intro a hF
                refine E.eff (w' := setN w143 (w8.heap.size) 0 [.int .i64 p.hold, .slice al1 nl1 cl1, .slice aw1 nw1 cw1]) rfl rfl (by exact xStore rfl (hF.at 6 rfl) (hF.at 144 rfl) p6 rfl (by kernel_rfl) rfl) ?_
                have hc145 : Chg (fun x => x = w8.heap.size) w143 (setN w143 (w8.heap.size) 0 [.int .i64 p.hold, .slice al1 nl1 cl1, .slice aw1 nw1 cw1]) := setN_own _ _ _ _
                have z147 := hc145.size
                replace hP := hP.chg hc145 (fun y hy => by have hy : y = w8.heap.size := hy; subst hy; exact nb13)
                replace hR := hR.kept hc145.size (fun x hx hl => hc145.block x hl (fun hn => hx.elim (fun hx => by have hn : x = w8.heap.size := hn; obtain ⟨hx0, hx1, hx2, hx3⟩ := hx; omega) (fun hx => by (try dsimp only at hx); exact by have hn : x = w8.heap.size := hn; omega)))
                replace p8 := p8.chg hc145 (fun e => by have e : wr.heap.size = w8.heap.size := e; omega)
                replace hm2 := hm2.kept hc145.size (fun x hx hl => hc145.block x hl (fun hn => hx.elim (fun hx => by have hn : x = w8.heap.size := hn; obtain ⟨hx0, hx1, hx2⟩ := hx; omega) (fun hx => by (try dsimp only at hx); exact by have hn : x = w8.heap.size := hn; omega)))
                replace p24 := p24.chg hc145 (fun e => by have e : w136.heap.size = w8.heap.size := e; omega)
                replace p6 : pts (setN w143 (w8.heap.size) 0 [.int .i64 p.hold, .slice al1 nl1 cl1, .slice aw1 nw1 cw1]) (w8.heap.size) [.int .i64 p.hold, .slice al1 nl1 cl1, .slice aw1 nw1 cw1] 56 := setN_pts0 p6 _ rfl
                replace hC := hC.trans hc145 (fun x hx => .inr (by omega))
                clear hc145; generalize setN w143 (w8.heap.size) 0 [.int .i64 p.hold, .slice al1 nl1 cl1, .slice aw1 nw1 cw1] = w146 at hC z147 hP p6 hR p8 hm2 p24 ⊢
                refine wpList_nil ?_
                refine E.then_norm (hK33 _ _ ?_)
                refine wp_region_lit ?_  -- R32
                refine E.val (d := 145) (v := .pointer (some ⟨pb, 0, none⟩)) (w' := w146) rfl rfl rfl hF (by exact E.xMv rfl (hF.at 5 rfl)) ?_
                clear hF a; intro a hF
                refine E.val (d := 146) (v := .pointer (some ⟨wr.heap.size, 3, none⟩)) (w' := w146) rfl rfl rfl hF (by have e8 : a.tmps[8]?.getD undef = .pointer (some ⟨wr.heap.size, 0, none⟩) := hF.at 8 rfl; simp [go_sem, e8]) ?_
                clear hF a; intro a hF
                refine E.val (d := 147) (v := .int .i64 q.n) (w' := w146) rfl rfl rfl hF (by have c3 : w146.cell? ⟨wr.heap.size, 3, none⟩ = some (.int .i64 q.n) := p8.cell 3; have e146 : a.tmps[146]?.getD undef = .pointer (some ⟨wr.heap.size, 3, none⟩) := hF.at 146 rfl; simp [go_sem, e146, c3]) ?_
                clear hF a; intro a hF
                refine E.call (f := 17) (xs := #[.pointer (some ⟨pb, 0, none⟩), .int .i64 q.n]) rfl rfl rfl hF (by have e145 : a.tmps[145]?.getD undef = .pointer (some ⟨pb, 0, none⟩) := hF.at 145 rfl; have e147 : a.tmps[147]?.getD undef = .int .i64 q.n := hF.at 147 rfl; simp [go_sem, e145, e147]) (sweep_x hP q.n) ?_
                rintro e w148 ⟨v, qj, M1, rfl, hq1, hm1, hP1, hsub, -, hc1⟩
                obtain ⟨aj, cj, rfl⟩ := hm1.shape
                refine ⟨_, rfl, ?_⟩
                clear hF a; intro a hF
                have z149 := hc1.size
                have ol_p6 := p6.lt
                have ol_p8 := p8.lt
                replace p6 := p6.chg hc1 nb13.1
                replace hR := (hR.mono (okr' := fun x => (fun x => (w15.heap.size ≤ x) ∧ (¬ M_hP x) ∧ (x ≠ wr.heap.size) ∧ (x ≠ w136.heap.size)) x ∧ x < w146.heap.size) (okb' := (fun x => x < w.heap.size)) (fun x hx hl => ⟨hx, hl⟩) (fun _ h _ => h))
                replace hR := (hR.kept hc1.size (fun x hx hl => hc1.block x hl (fun hn => hx.elim (fun hx => by obtain ⟨⟨hx0, hx1, hx2, hx3⟩, hy⟩ := hx; exact hx1 hn) (fun hx => by (try dsimp only at hx); have := hge x hn; omega)))).mono (okr' := (fun x => (w15.heap.size ≤ x) ∧ (¬ M1 x) ∧ (x ≠ wr.heap.size) ∧ (x ≠ w136.heap.size))) (okb' := (fun x => x < w.heap.size)) (fun x hx _ => by obtain ⟨⟨hx0, hx1, hx2, hx3⟩, hy⟩ := hx; exact ⟨hx0, fun e => (hsub x e).elim hx1 (fun h => by omega), hx2, hx3⟩) (fun _ h _ => h)
                replace p8 := p8.chg hc1 nb23.1
                replace hm2 := (hm2.mono (ok' := fun x => (fun x => (w28.heap.size ≤ x) ∧ (x < w136.heap.size) ∧ (¬ M_hP x)) x ∧ x < w146.heap.size) (okw' := (fun x => x < w.heap.size)) (fun x hx hl => ⟨hx, hl⟩) (fun _ h _ => h))
                replace hm2 := (hm2.kept hc1.size (fun x hx hl => hc1.block x hl (fun hn => hx.elim (fun hx => by obtain ⟨⟨hx0, hx1, hx2⟩, hy⟩ := hx; exact hx2 hn) (fun hx => by (try dsimp only at hx); have := hge x hn; omega)))).mono (ok' := (fun x => (w28.heap.size ≤ x) ∧ (x < w136.heap.size) ∧ (¬ M1 x))) (okw' := (fun x => x < w.heap.size)) (fun x hx _ => by obtain ⟨⟨hx0, hx1, hx2⟩, hy⟩ := hx; exact ⟨hx0, hx1, fun e => (hsub x e).elim hx2 (fun h => by omega)⟩) (fun _ h _ => h)
                replace hC := hC.trans hc1 (fun x hx => .inr (hge x hx))
                replace nb13 : ¬ M1 (w8.heap.size) ∧ ¬ W_hP (w8.heap.size) := ⟨fun h => (hsub _ h).elim nb13.1 (fun h => by have := ol_p6; omega), nb13.2⟩
                replace nb23 : ¬ M1 (wr.heap.size) ∧ ¬ W_hP (wr.heap.size) := ⟨fun h => (hsub _ h).elim nb23.1 (fun h => by have := ol_p8; omega), nb23.2⟩
                replace hge : ∀ x, M1 x → w.heap.size ≤ x := fun x h => (hsub x h).elim (hge x) (fun h => by omega)
                replace hP := hP1; clear hsub hc1 ol_p6 ol_p8
                refine E.val (d := 149) (v := .slice ak qk.length ck) (w' := w148) rfl rfl rfl hF (by exact E.xMv rfl (hF.at 25 rfl)) ?_
                clear hF a; intro a hF
                refine E.call (f := 22) (xs := #[.slice aj qj.length cj, .slice ak qk.length ck]) rfl rfl rfl hF (by have e148 : a.tmps[148]?.getD undef = .slice aj qj.length cj := hF.at 148 rfl; have e149 : a.tmps[149]?.getD undef = .slice ak qk.length ck := hF.at 149 rfl; simp [go_sem, e148, e149]) (R2.same_eq hm1 hm2 (hq1.trans hq2.symm)) ?_
                rintro e w151 ⟨rfl, hb150⟩
                refine ⟨_, rfl, ?_⟩
                clear hF a; intro a hF
                replace hP := hP.below hb150
                replace p6 := p6.below hb150
                replace hR := hR.below hb150
                replace p8 := p8.below hb150
                replace hm2 := hm2.below hb150
                replace hC := hC.below hb150
                have z152 : w148.heap.size ≤ w151.heap.size := hb150.size
                clear hb150
                refine E.val (d := 9) (v := .bool true) (w' := w151) rfl rfl rfl hF (by exact E.xAs rfl (hF.at 150 rfl)) ?_
                clear hF a; intro a hF
                refine wpList_nil ?_
                clear hm1 hm2
                refine E.in_norm ?_
                replace hF := hF.sub (m' := [(9, .bool true), (8, .pointer (some ⟨wr.heap.size, 0, none⟩)), (7, .int .i64 (i : Int)), (1, .slice a3 ys.length c3), (5, .pointer (some ⟨pb, 0, none⟩)), (6, .pointer (some ⟨w8.heap.size, 0, none⟩))]) ⟨rfl, rfl, rfl, rfl, rfl, rfl, trivial⟩
                refine E.then_norm (hK13 _ _ ?_)
                refine wp_seq_k fun K34 hK34 => ?_
                have hln := hR.lens.1; have hps1 : ({ p with ms := p.ms.filter (fun m => !lateM q.n m) } : Prt).s ≤ (i : Int) + 1 := (by simpa using (by omega : p.s ≤ (i : Int) + 1)); have hpr1 : ({ p with ms := p.ms.filter (fun m => !lateM q.n m) } : Prt).row.length ≤ i + 1 := (by simpa using (by omega : p.row.length ≤ i + 1))
                have hk39 : (!((({ p with ms := p.ms.filter (fun m => !lateM q.n m) } : Prt).ms.length : Int) == (nl1 : Int))) = false := by rw [show nl1 = ({ p with ms := p.ms.filter (fun m => !lateM q.n m) } : Prt).ms.length from hln]; simp
                refine E.tab 37 [Sp.eq (.bool true), Sp.eq (.bool false), Sp.eq (.bool false), Sp.eq (.pointer (some ⟨pb, 0, none⟩)), Sp.eq (.int .i64 (({ p with ms := p.ms.filter (fun m => !lateM q.n m) } : Prt).ms.length : Int)), Sp.eq (.pointer (some ⟨w8.heap.size, 1, none⟩)), Sp.eq (.slice al1 nl1 cl1), Sp.eq (.int .i64 (nl1 : Int)), Sp.eq (.bool (!((({ p with ms := p.ms.filter (fun m => !lateM q.n m) } : Prt).ms.length : Int) == (nl1 : Int)))), Sp.eq (.bool (!((({ p with ms := p.ms.filter (fun m => !lateM q.n m) } : Prt).ms.length : Int) == (nl1 : Int)))), Sp.eq (.bool (!((({ p with ms := p.ms.filter (fun m => !lateM q.n m) } : Prt).ms.length : Int) == (nl1 : Int)))), Sp.eq (.pointer (some ⟨pb, 0, none⟩)), Sp.of (fun v u => ∃ (aA : Option Addr) (cA : Nat) (qA : List (Value × Msg)), v = .slice aA qA.length cA ∧ MsgsAt (fun _ => True) (fun _ => True) u (.slice aA qA.length cA) qA ∧ qA.map Prod.snd = ({ p with ms := p.ms.filter (fun m => !lateM q.n m) } : Prt).ms) (fun v u u' ⟨aA, cA, qA, e_186, hAm, hAq⟩ hb => ⟨aA, cA, qA, e_186, hAm.below hb, hAq⟩), Sp.eq (.pointer (some ⟨w8.heap.size, 1, none⟩)), Sp.eq (.slice al1 nl1 cl1), Sp.eq (.bool true), Sp.eq (.bool false), Sp.eq (.bool false), Sp.eq (.bool false), Sp.eq (.pointer (some ⟨pb, 0, none⟩)), Sp.of (fun v u => ∃ (aX : Option Addr) (cX : Nat), v = .slice aX (({ p with ms := p.ms.filter (fun m => !lateM q.n m) } : Prt).row.length) cX ∧ IntsAt (fun _ => True) u (.slice aX ({ p with ms := p.ms.filter (fun m => !lateM q.n m) } : Prt).row.length cX) ({ p with ms := p.ms.filter (fun m => !lateM q.n m) } : Prt).row) (fun v u u' ⟨aX, cX, e_194, hX⟩ hb => ⟨aX, cX, e_194, hX.below hb⟩), Sp.eq (.agg #[.int .i64 p.hold, .slice al1 nl1 cl1, .slice aw1 nw1 cw1]), Sp.of (fun v u => ∃ (aY : Option Addr) (cY : Nat), v = .slice aY (({ p with ms := p.ms.filter (fun m => !lateM q.n m) } : Prt).row.length) cY ∧ IntsAt (fun _ => True) u (.slice aY ({ p with ms := p.ms.filter (fun m => !lateM q.n m) } : Prt).row.length cY) ({ p with ms := p.ms.filter (fun m => !lateM q.n m) } : Prt).row) (fun v u u' ⟨aY, cY, e_196, hY⟩ hb => ⟨aY, cY, e_196, hY.below hb⟩), Sp.eq (.bool true), Sp.eq (.bool false), Sp.eq (.bool false), Sp.eq (.bool false), Sp.eq (.pointer (some ⟨pb, 0, none⟩)), Sp.eq (.pointer (some ⟨wr.heap.size, 1, none⟩)), Sp.eq (.int .i64 q.p), Sp.eq (.bool (decide (q.p ∈ ({ p with ms := p.ms.filter (fun m => !lateM q.n m) } : Prt).row))), Sp.eq (.agg #[.int .i64 p.hold, .slice al1 nl1 cl1, .slice aw1 nw1 cw1]), Sp.eq (.pointer (some ⟨wr.heap.size, 1, none⟩)), Sp.eq (.int .i64 q.p), Sp.eq (.bool (decide (q.p ∈ ({ p with ms := p.ms.filter (fun m => !lateM q.n m) } : Prt).row))), Sp.eq (.bool false), Sp.eq (.bool false)] hF (fun _ _ _ _ _ h => h) (by kernel_rfl) (by kernel_rfl) ⟨?_, ?_, ?_, ?_, ?_, ?_, ?_, ?_, ?_, ?_, ?_, ?_, ?_, ?_, ?_, ?_, ?_, ?_, ?_, ?_, ?_, ?_, ?_, ?_, ?_, ?_, ?_, ?_, ?_, ?_, ?_, ?_, ?_, ?_, ?_, ?_, ?_, trivial⟩ ?_  -- R39
                · intro ac gs u hbO hgO hO
                  refine opFree rfl ?_
                  exact relRun (v := .bool true) (w' := u) (by exact E.xMv rfl ((hO.inm 9 rfl (hF.ev 9 _ rfl)))) (okP hgO rfl)
                · intro ac gs u hbO hgO hO
                  refine opFree rfl ?_
                  exact relRun (v := .bool false) (w' := u) (by have e174 : ac.tmps[174]?.getD undef = .bool true := (show ac.tmps[174]?.getD undef = .bool true from hO.tm 0 174 rfl rfl); simp [go_sem, e174]) (okP hgO rfl)
                · intro ac gs u hbO hgO hO
                  refine opFree rfl ?_
                  exact relRun (v := .bool false) (w' := u) (by exact E.xMv rfl ((show ac.tmps[175]?.getD undef = .bool false from hO.tm 1 175 rfl rfl))) (okP hgO rfl)
                · intro ac gs u hbO hgO hO
                  refine opWant 2 176 rfl rfl ((show ac.tmps[176]?.getD undef = .bool false from hO.tm 2 176 rfl rfl)) ?_
                  exact relRun (v := .pointer (some ⟨pb, 0, none⟩)) (w' := u) (by exact E.xMv rfl ((hO.inm 5 rfl (hF.ev 5 _ rfl)))) (okP hgO rfl)
                · intro ac gs u hbO hgO hO
                  refine opWant 2 176 rfl rfl ((show ac.tmps[176]?.getD undef = .bool false from hO.tm 2 176 rfl rfl)) ?_
                  refine relCall (f := 18) (args := #[.pointer (some ⟨pb, 0, none⟩)]) (by have e177 : ac.tmps[177]?.getD undef = .pointer (some ⟨pb, 0, none⟩) := (show ac.tmps[177]?.getD undef = .pointer (some ⟨pb, 0, none⟩) from hO.tm 3 177 rfl rfl); simp [go_sem, e177]) ?_
                  refine Calls.mono (len_x (hP.below hbO)) ?_
                  rintro e u' ⟨rfl, rfl⟩
                  exact ⟨_, rfl, okP hgO rfl⟩
                · intro ac gs u hbO hgO hO
                  refine opWant 2 176 rfl rfl ((show ac.tmps[176]?.getD undef = .bool false from hO.tm 2 176 rfl rfl)) ?_
                  exact relRun (v := .pointer (some ⟨w8.heap.size, 1, none⟩)) (w' := u) (by have e6 : ac.tmps[6]?.getD undef = .pointer (some ⟨w8.heap.size, 0, none⟩) := (hO.inm 6 rfl (hF.ev 6 _ rfl)); simp [go_sem, e6]) (okP hgO rfl)
                · intro ac gs u hbO hgO hO
                  refine opWant 2 176 rfl rfl ((show ac.tmps[176]?.getD undef = .bool false from hO.tm 2 176 rfl rfl)) ?_
                  exact relRun (v := .slice al1 nl1 cl1) (w' := u) (by have c1 : u.cell? ⟨w8.heap.size, 1, none⟩ = some (.slice al1 nl1 cl1) := (p6.below hbO).cell 1; have e179 : ac.tmps[179]?.getD undef = .pointer (some ⟨w8.heap.size, 1, none⟩) := (show ac.tmps[179]?.getD undef = .pointer (some ⟨w8.heap.size, 1, none⟩) from hO.tm 5 179 rfl rfl); simp [go_sem, e179, c1]) (okP hgO rfl)
                · intro ac gs u hbO hgO hO
                  refine opWant 2 176 rfl rfl ((show ac.tmps[176]?.getD undef = .bool false from hO.tm 2 176 rfl rfl)) ?_
                  exact relRun (v := .int .i64 (nl1 : Int)) (w' := u) (by have e180 : ac.tmps[180]?.getD undef = .slice al1 nl1 cl1 := (show ac.tmps[180]?.getD undef = .slice al1 nl1 cl1 from hO.tm 6 180 rfl rfl); simp [go_sem, e180]) (okP hgO rfl)
                · intro ac gs u hbO hgO hO
                  refine opWant 2 176 rfl rfl ((show ac.tmps[176]?.getD undef = .bool false from hO.tm 2 176 rfl rfl)) ?_
                  exact relRun (v := .bool (!((({ p with ms := p.ms.filter (fun m => !lateM q.n m) } : Prt).ms.length : Int) == (nl1 : Int)))) (w' := u) (by have e178 : ac.tmps[178]?.getD undef = .int .i64 (({ p with ms := p.ms.filter (fun m => !lateM q.n m) } : Prt).ms.length : Int) := (show ac.tmps[178]?.getD undef = .int .i64 (({ p with ms := p.ms.filter (fun m => !lateM q.n m) } : Prt).ms.length : Int) from hO.tm 4 178 rfl rfl); have e181 : ac.tmps[181]?.getD undef = .int .i64 (nl1 : Int) := (show ac.tmps[181]?.getD undef = .int .i64 (nl1 : Int) from hO.tm 7 181 rfl rfl); simp [go_sem, e178, e181, bne]) (okP hgO rfl)
                · intro ac gs u hbO hgO hO
                  refine opFree rfl ?_
                  exact relRun (v := .bool (!((({ p with ms := p.ms.filter (fun m => !lateM q.n m) } : Prt).ms.length : Int) == (nl1 : Int)))) (w' := u) (by have e176 : ac.tmps[176]?.getD undef = .bool false := (show ac.tmps[176]?.getD undef = .bool false from hO.tm 2 176 rfl rfl); have e182 : ac.tmps[182]?.getD undef = .bool (!((({ p with ms := p.ms.filter (fun m => !lateM q.n m) } : Prt).ms.length : Int) == (nl1 : Int))) := (show ac.tmps[182]?.getD undef = .bool (!((({ p with ms := p.ms.filter (fun m => !lateM q.n m) } : Prt).ms.length : Int) == (nl1 : Int))) from hO.tm 8 182 rfl rfl); simp [go_sem, e176, e182]) (okP hgO rfl)
                · intro ac gs u hbO hgO hO
                  refine opFree rfl ?_
                  exact relRun (v := .bool (!((({ p with ms := p.ms.filter (fun m => !lateM q.n m) } : Prt).ms.length : Int) == (nl1 : Int)))) (w' := u) (by exact E.xMv rfl ((show ac.tmps[183]?.getD undef = .bool (!((({ p with ms := p.ms.filter (fun m => !lateM q.n m) } : Prt).ms.length : Int) == (nl1 : Int))) from hO.tm 9 183 rfl rfl))) (okP hgO rfl)
                · intro ac gs u hbO hgO hO
                  refine opWant 10 184 rfl rfl ((((show ac.tmps[184]?.getD undef = .bool (!((({ p with ms := p.ms.filter (fun m => !lateM q.n m) } : Prt).ms.length : Int) == (nl1 : Int))) from hO.tm 10 184 rfl rfl)).trans (congrArg Value.bool hk39))) ?_
                  exact relRun (v := .pointer (some ⟨pb, 0, none⟩)) (w' := u) (by exact E.xMv rfl ((hO.inm 5 rfl (hF.ev 5 _ rfl)))) (okP hgO rfl)
                · intro ac gs u hbO hgO hO
                  refine opWant 10 184 rfl rfl ((((show ac.tmps[184]?.getD undef = .bool (!((({ p with ms := p.ms.filter (fun m => !lateM q.n m) } : Prt).ms.length : Int) == (nl1 : Int))) from hO.tm 10 184 rfl rfl)).trans (congrArg Value.bool hk39))) ?_
                  refine relCall (f := 20) (args := #[.pointer (some ⟨pb, 0, none⟩)]) (by have e185 : ac.tmps[185]?.getD undef = .pointer (some ⟨pb, 0, none⟩) := (show ac.tmps[185]?.getD undef = .pointer (some ⟨pb, 0, none⟩) from hO.tm 11 185 rfl rfl); simp [go_sem, e185]) ?_
                  refine Calls.mono (all_x (hP.below hbO)) ?_
                  rintro e u' ⟨v, qA, rfl, hAq, hAm, hb153⟩
                  obtain ⟨aA, cA, rfl⟩ := hAm.shape
                  exact ⟨_, rfl, okB hgO hb153 ⟨_, _, _, rfl, hAm.mono (fun _ _ _ => trivial) (fun _ _ _ => trivial), hAq⟩⟩
                · intro ac gs u hbO hgO hO
                  refine opWant 10 184 rfl rfl ((((show ac.tmps[184]?.getD undef = .bool (!((({ p with ms := p.ms.filter (fun m => !lateM q.n m) } : Prt).ms.length : Int) == (nl1 : Int))) from hO.tm 10 184 rfl rfl)).trans (congrArg Value.bool hk39))) ?_
                  exact relRun (v := .pointer (some ⟨w8.heap.size, 1, none⟩)) (w' := u) (by have e6 : ac.tmps[6]?.getD undef = .pointer (some ⟨w8.heap.size, 0, none⟩) := (hO.inm 6 rfl (hF.ev 6 _ rfl)); simp [go_sem, e6]) (okP hgO rfl)
                · intro ac gs u hbO hgO hO
                  refine opWant 10 184 rfl rfl ((((show ac.tmps[184]?.getD undef = .bool (!((({ p with ms := p.ms.filter (fun m => !lateM q.n m) } : Prt).ms.length : Int) == (nl1 : Int))) from hO.tm 10 184 rfl rfl)).trans (congrArg Value.bool hk39))) ?_
                  exact relRun (v := .slice al1 nl1 cl1) (w' := u) (by have c1 : u.cell? ⟨w8.heap.size, 1, none⟩ = some (.slice al1 nl1 cl1) := (p6.below hbO).cell 1; have e187 : ac.tmps[187]?.getD undef = .pointer (some ⟨w8.heap.size, 1, none⟩) := (show ac.tmps[187]?.getD undef = .pointer (some ⟨w8.heap.size, 1, none⟩) from hO.tm 13 187 rfl rfl); simp [go_sem, e187, c1]) (okP hgO rfl)
                · intro ac gs u hbO hgO hO
                  obtain ⟨aA, cA, qA, e_186, hAm, hAq⟩ := hO.tm 12 186 rfl rfl
                  refine opWant 10 184 rfl rfl ((((show ac.tmps[184]?.getD undef = .bool (!((({ p with ms := p.ms.filter (fun m => !lateM q.n m) } : Prt).ms.length : Int) == (nl1 : Int))) from hO.tm 10 184 rfl rfl)).trans (congrArg Value.bool hk39))) ?_
                  refine relCall (f := 22) (args := #[.slice aA qA.length cA, .slice al1 nl1 cl1]) (by have e186 : ac.tmps[186]?.getD undef = .slice aA qA.length cA := e_186; have e188 : ac.tmps[188]?.getD undef = .slice al1 nl1 cl1 := (show ac.tmps[188]?.getD undef = .slice al1 nl1 cl1 from hO.tm 14 188 rfl rfl); simp [go_sem, e186, e188]) ?_
                  refine Calls.mono (same_ref hAm hAq (hR.below hbO)) ?_
                  rintro e u' ⟨rfl, hb154⟩
                  exact ⟨_, rfl, okB hgO hb154 rfl⟩
                · intro ac gs u hbO hgO hO
                  refine opWant 10 184 rfl rfl ((((show ac.tmps[184]?.getD undef = .bool (!((({ p with ms := p.ms.filter (fun m => !lateM q.n m) } : Prt).ms.length : Int) == (nl1 : Int))) from hO.tm 10 184 rfl rfl)).trans (congrArg Value.bool hk39))) ?_
                  exact relRun (v := .bool false) (w' := u) (by have e189 : ac.tmps[189]?.getD undef = .bool true := (show ac.tmps[189]?.getD undef = .bool true from hO.tm 15 189 rfl rfl); simp [go_sem, e189]) (okP hgO rfl)
                · intro ac gs u hbO hgO hO
                  refine opFree rfl ?_
                  exact relRun (v := .bool false) (w' := u) (by have e184 : ac.tmps[184]?.getD undef = .bool (!((({ p with ms := p.ms.filter (fun m => !lateM q.n m) } : Prt).ms.length : Int) == (nl1 : Int))) := (show ac.tmps[184]?.getD undef = .bool (!((({ p with ms := p.ms.filter (fun m => !lateM q.n m) } : Prt).ms.length : Int) == (nl1 : Int))) from hO.tm 10 184 rfl rfl); have e190 : ac.tmps[190]?.getD undef = .bool false := (show ac.tmps[190]?.getD undef = .bool false from hO.tm 16 190 rfl rfl); simp [go_sem, e184, e190, hk39]) (okP hgO rfl)
                · intro ac gs u hbO hgO hO
                  refine opFree rfl ?_
                  exact relRun (v := .bool false) (w' := u) (by exact E.xMv rfl ((show ac.tmps[191]?.getD undef = .bool false from hO.tm 17 191 rfl rfl))) (okP hgO rfl)
                · intro ac gs u hbO hgO hO
                  refine opWant 18 192 rfl rfl ((show ac.tmps[192]?.getD undef = .bool false from hO.tm 18 192 rfl rfl)) ?_
                  exact relRun (v := .pointer (some ⟨pb, 0, none⟩)) (w' := u) (by exact E.xMv rfl ((hO.inm 5 rfl (hF.ev 5 _ rfl)))) (okP hgO rfl)
                · intro ac gs u hbO hgO hO
                  refine opWant 18 192 rfl rfl ((show ac.tmps[192]?.getD undef = .bool false from hO.tm 18 192 rfl rfl)) ?_
                  refine relCall (f := 11) (args := #[.pointer (some ⟨pb, 0, none⟩)]) (by have e193 : ac.tmps[193]?.getD undef = .pointer (some ⟨pb, 0, none⟩) := (show ac.tmps[193]?.getD undef = .pointer (some ⟨pb, 0, none⟩) from hO.tm 19 193 rfl rfl); simp [go_sem, e193]) ?_
                  refine Calls.mono (waiting_x (hP.below hbO) (by omega)) ?_
                  rintro e u' ⟨v, rfl, hX, hb155⟩
                  obtain ⟨aX, cX, rfl⟩ := hX.shape
                  exact ⟨_, rfl, okB hgO hb155 ⟨_, _, rfl, hX.mono (fun _ _ _ => trivial)⟩⟩
                · intro ac gs u hbO hgO hO
                  refine opWant 18 192 rfl rfl ((show ac.tmps[192]?.getD undef = .bool false from hO.tm 18 192 rfl rfl)) ?_
                  exact relRun (v := .agg #[.int .i64 p.hold, .slice al1 nl1 cl1, .slice aw1 nw1 cw1]) (w' := u) (by exact xLoad rfl ((hO.inm 6 rfl (hF.ev 6 _ rfl))) (p6.below hbO) Try.underlying56 rfl (by kernel_rfl)) (okP hgO rfl)
                · intro ac gs u hbO hgO hO
                  refine opWant 18 192 rfl rfl ((show ac.tmps[192]?.getD undef = .bool false from hO.tm 18 192 rfl rfl)) ?_
                  refine relCall (f := 30) (args := #[.agg #[.int .i64 p.hold, .slice al1 nl1 cl1, .slice aw1 nw1 cw1]]) (by have e195 : ac.tmps[195]?.getD undef = .agg #[.int .i64 p.hold, .slice al1 nl1 cl1, .slice aw1 nw1 cw1] := (show ac.tmps[195]?.getD undef = .agg #[.int .i64 p.hold, .slice al1 nl1 cl1, .slice aw1 nw1 cw1] from hO.tm 21 195 rfl rfl); simp [go_sem, e195]) ?_
                  refine Calls.mono (waiting_p (hR.below hbO) _ (by omega)) ?_
                  rintro e u' ⟨v, rfl, hY, hb156⟩
                  obtain ⟨aY, cY, rfl⟩ := hY.shape
                  exact ⟨_, rfl, okB hgO hb156 ⟨_, _, rfl, hY.mono (fun _ _ _ => trivial)⟩⟩
                · intro ac gs u hbO hgO hO
                  obtain ⟨aX, cX, e_194, hX⟩ := hO.tm 20 194 rfl rfl
                  obtain ⟨aY, cY, e_196, hY⟩ := hO.tm 22 196 rfl rfl
                  refine opWant 18 192 rfl rfl ((show ac.tmps[192]?.getD undef = .bool false from hO.tm 18 192 rfl rfl)) ?_
                  refine relCall (f := 23) (args := #[.slice aX (({ p with ms := p.ms.filter (fun m => !lateM q.n m) } : Prt).row.length) cX, .slice aY (({ p with ms := p.ms.filter (fun m => !lateM q.n m) } : Prt).row.length) cY]) (by have e194 : ac.tmps[194]?.getD undef = .slice aX (({ p with ms := p.ms.filter (fun m => !lateM q.n m) } : Prt).row.length) cX := e_194; have e196 : ac.tmps[196]?.getD undef = .slice aY (({ p with ms := p.ms.filter (fun m => !lateM q.n m) } : Prt).row.length) cY := e_196; simp [go_sem, e194, e196]) ?_
                  refine Calls.mono (ints_same hX hY) ?_
                  rintro e u' ⟨rfl, hb157⟩
                  exact ⟨_, rfl, okB hgO hb157 rfl⟩
                · intro ac gs u hbO hgO hO
                  refine opWant 18 192 rfl rfl ((show ac.tmps[192]?.getD undef = .bool false from hO.tm 18 192 rfl rfl)) ?_
                  exact relRun (v := .bool false) (w' := u) (by have e197 : ac.tmps[197]?.getD undef = .bool true := (show ac.tmps[197]?.getD undef = .bool true from hO.tm 23 197 rfl rfl); simp [go_sem, e197]) (okP hgO rfl)
                · intro ac gs u hbO hgO hO
                  refine opFree rfl ?_
                  exact relRun (v := .bool false) (w' := u) (by have e192 : ac.tmps[192]?.getD undef = .bool false := (show ac.tmps[192]?.getD undef = .bool false from hO.tm 18 192 rfl rfl); have e198 : ac.tmps[198]?.getD undef = .bool false := (show ac.tmps[198]?.getD undef = .bool false from hO.tm 24 198 rfl rfl); simp [go_sem, e192, e198]) (okP hgO rfl)
                · intro ac gs u hbO hgO hO
                  refine opFree rfl ?_
                  exact relRun (v := .bool false) (w' := u) (by exact E.xMv rfl ((show ac.tmps[199]?.getD undef = .bool false from hO.tm 25 199 rfl rfl))) (okP hgO rfl)
                · intro ac gs u hbO hgO hO
                  refine opWant 26 200 rfl rfl ((show ac.tmps[200]?.getD undef = .bool false from hO.tm 26 200 rfl rfl)) ?_
                  exact relRun (v := .pointer (some ⟨pb, 0, none⟩)) (w' := u) (by exact E.xMv rfl ((hO.inm 5 rfl (hF.ev 5 _ rfl)))) (okP hgO rfl)
                · intro ac gs u hbO hgO hO
                  refine opWant 26 200 rfl rfl ((show ac.tmps[200]?.getD undef = .bool false from hO.tm 26 200 rfl rfl)) ?_
                  exact relRun (v := .pointer (some ⟨wr.heap.size, 1, none⟩)) (w' := u) (by have e8 : ac.tmps[8]?.getD undef = .pointer (some ⟨wr.heap.size, 0, none⟩) := (hO.inm 8 rfl (hF.ev 8 _ rfl)); simp [go_sem, e8]) (okP hgO rfl)
                · intro ac gs u hbO hgO hO
                  refine opWant 26 200 rfl rfl ((show ac.tmps[200]?.getD undef = .bool false from hO.tm 26 200 rfl rfl)) ?_
                  exact relRun (v := .int .i64 q.p) (w' := u) (by have c1 : u.cell? ⟨wr.heap.size, 1, none⟩ = some (.int .i64 q.p) := (p8.below hbO).cell 1; have e202 : ac.tmps[202]?.getD undef = .pointer (some ⟨wr.heap.size, 1, none⟩) := (show ac.tmps[202]?.getD undef = .pointer (some ⟨wr.heap.size, 1, none⟩) from hO.tm 28 202 rfl rfl); simp [go_sem, e202, c1]) (okP hgO rfl)
                · intro ac gs u hbO hgO hO
                  refine opWant 26 200 rfl rfl ((show ac.tmps[200]?.getD undef = .bool false from hO.tm 26 200 rfl rfl)) ?_
                  refine relCall (f := 19) (args := #[.pointer (some ⟨pb, 0, none⟩), .int .i64 q.p]) (by have e201 : ac.tmps[201]?.getD undef = .pointer (some ⟨pb, 0, none⟩) := (show ac.tmps[201]?.getD undef = .pointer (some ⟨pb, 0, none⟩) from hO.tm 27 201 rfl rfl); have e203 : ac.tmps[203]?.getD undef = .int .i64 q.p := (show ac.tmps[203]?.getD undef = .int .i64 q.p from hO.tm 29 203 rfl rfl); simp [go_sem, e201, e203]) ?_
                  refine Calls.mono (waits_x (hP.below hbO) _) ?_
                  rintro e u' ⟨rfl, rfl⟩
                  exact ⟨_, rfl, okP hgO rfl⟩
                · intro ac gs u hbO hgO hO
                  refine opWant 26 200 rfl rfl ((show ac.tmps[200]?.getD undef = .bool false from hO.tm 26 200 rfl rfl)) ?_
                  exact relRun (v := .agg #[.int .i64 p.hold, .slice al1 nl1 cl1, .slice aw1 nw1 cw1]) (w' := u) (by exact xLoad rfl ((hO.inm 6 rfl (hF.ev 6 _ rfl))) (p6.below hbO) Try.underlying56 rfl (by kernel_rfl)) (okP hgO rfl)
                · intro ac gs u hbO hgO hO
                  refine opWant 26 200 rfl rfl ((show ac.tmps[200]?.getD undef = .bool false from hO.tm 26 200 rfl rfl)) ?_
                  exact relRun (v := .pointer (some ⟨wr.heap.size, 1, none⟩)) (w' := u) (by have e8 : ac.tmps[8]?.getD undef = .pointer (some ⟨wr.heap.size, 0, none⟩) := (hO.inm 8 rfl (hF.ev 8 _ rfl)); simp [go_sem, e8]) (okP hgO rfl)
                · intro ac gs u hbO hgO hO
                  refine opWant 26 200 rfl rfl ((show ac.tmps[200]?.getD undef = .bool false from hO.tm 26 200 rfl rfl)) ?_
                  exact relRun (v := .int .i64 q.p) (w' := u) (by have c1 : u.cell? ⟨wr.heap.size, 1, none⟩ = some (.int .i64 q.p) := (p8.below hbO).cell 1; have e206 : ac.tmps[206]?.getD undef = .pointer (some ⟨wr.heap.size, 1, none⟩) := (show ac.tmps[206]?.getD undef = .pointer (some ⟨wr.heap.size, 1, none⟩) from hO.tm 32 206 rfl rfl); simp [go_sem, e206, c1]) (okP hgO rfl)
                · intro ac gs u hbO hgO hO
                  refine opWant 26 200 rfl rfl ((show ac.tmps[200]?.getD undef = .bool false from hO.tm 26 200 rfl rfl)) ?_
                  refine relCall (f := 31) (args := #[.agg #[.int .i64 p.hold, .slice al1 nl1 cl1, .slice aw1 nw1 cw1], .int .i64 q.p]) (by have e205 : ac.tmps[205]?.getD undef = .agg #[.int .i64 p.hold, .slice al1 nl1 cl1, .slice aw1 nw1 cw1] := (show ac.tmps[205]?.getD undef = .agg #[.int .i64 p.hold, .slice al1 nl1 cl1, .slice aw1 nw1 cw1] from hO.tm 31 205 rfl rfl); have e207 : ac.tmps[207]?.getD undef = .int .i64 q.p := (show ac.tmps[207]?.getD undef = .int .i64 q.p from hO.tm 33 207 rfl rfl); simp [go_sem, e205, e207]) ?_
                  refine Calls.mono (waits_p (hR.below hbO) _ _) ?_
                  rintro e u' ⟨rfl, hb158⟩
                  exact ⟨_, rfl, okB hgO hb158 rfl⟩
                · intro ac gs u hbO hgO hO
                  refine opWant 26 200 rfl rfl ((show ac.tmps[200]?.getD undef = .bool false from hO.tm 26 200 rfl rfl)) ?_
                  exact relRun (v := .bool false) (w' := u) (by have e204 : ac.tmps[204]?.getD undef = .bool (decide (q.p ∈ ({ p with ms := p.ms.filter (fun m => !lateM q.n m) } : Prt).row)) := (show ac.tmps[204]?.getD undef = .bool (decide (q.p ∈ ({ p with ms := p.ms.filter (fun m => !lateM q.n m) } : Prt).row)) from hO.tm 30 204 rfl rfl); have e208 : ac.tmps[208]?.getD undef = .bool (decide (q.p ∈ ({ p with ms := p.ms.filter (fun m => !lateM q.n m) } : Prt).row)) := (show ac.tmps[208]?.getD undef = .bool (decide (q.p ∈ ({ p with ms := p.ms.filter (fun m => !lateM q.n m) } : Prt).row)) from hO.tm 34 208 rfl rfl); simp [go_sem, e204, e208]) (okP hgO rfl)
                · intro ac gs u hbO hgO hO
                  refine opFree rfl ?_
                  exact relRun (v := .bool false) (w' := u) (by have e200 : ac.tmps[200]?.getD undef = .bool false := (show ac.tmps[200]?.getD undef = .bool false from hO.tm 26 200 rfl rfl); have e209 : ac.tmps[209]?.getD undef = .bool false := (show ac.tmps[209]?.getD undef = .bool false from hO.tm 35 209 rfl rfl); simp [go_sem, e200, e209]) (okP hgO rfl)
                intro vs gs w159 hb160 hgO hrO
                have r0 : vs 0 = .bool true := hrO 0 (by decide)
                have r1 : vs 1 = .bool false := hrO 1 (by decide)
                have r2 : vs 2 = .bool false := hrO 2 (by decide)
                have r3 : vs 3 = .pointer (some ⟨pb, 0, none⟩) := hrO 3 (by decide)
                have r4 : vs 4 = .int .i64 (({ p with ms := p.ms.filter (fun m => !lateM q.n m) } : Prt).ms.length : Int) := hrO 4 (by decide)
                have r5 : vs 5 = .pointer (some ⟨w8.heap.size, 1, none⟩) := hrO 5 (by decide)
                have r6 : vs 6 = .slice al1 nl1 cl1 := hrO 6 (by decide)
                have r7 : vs 7 = .int .i64 (nl1 : Int) := hrO 7 (by decide)
                have r8 : vs 8 = .bool (!((({ p with ms := p.ms.filter (fun m => !lateM q.n m) } : Prt).ms.length : Int) == (nl1 : Int))) := hrO 8 (by decide)
                have r9 : vs 9 = .bool (!((({ p with ms := p.ms.filter (fun m => !lateM q.n m) } : Prt).ms.length : Int) == (nl1 : Int))) := hrO 9 (by decide)
                have r10 : vs 10 = .bool (!((({ p with ms := p.ms.filter (fun m => !lateM q.n m) } : Prt).ms.length : Int) == (nl1 : Int))) := hrO 10 (by decide)
                have r11 : vs 11 = .pointer (some ⟨pb, 0, none⟩) := hrO 11 (by decide)
                have r13 : vs 13 = .pointer (some ⟨w8.heap.size, 1, none⟩) := hrO 13 (by decide)
                have r14 : vs 14 = .slice al1 nl1 cl1 := hrO 14 (by decide)
                have r15 : vs 15 = .bool true := hrO 15 (by decide)
                have r16 : vs 16 = .bool false := hrO 16 (by decide)
                have r17 : vs 17 = .bool false := hrO 17 (by decide)
                have r18 : vs 18 = .bool false := hrO 18 (by decide)
                have r19 : vs 19 = .pointer (some ⟨pb, 0, none⟩) := hrO 19 (by decide)
                have r21 : vs 21 = .agg #[.int .i64 p.hold, .slice al1 nl1 cl1, .slice aw1 nw1 cw1] := hrO 21 (by decide)
                have r23 : vs 23 = .bool true := hrO 23 (by decide)
                have r24 : vs 24 = .bool false := hrO 24 (by decide)
                have r25 : vs 25 = .bool false := hrO 25 (by decide)
                have r26 : vs 26 = .bool false := hrO 26 (by decide)
                have r27 : vs 27 = .pointer (some ⟨pb, 0, none⟩) := hrO 27 (by decide)
                have r28 : vs 28 = .pointer (some ⟨wr.heap.size, 1, none⟩) := hrO 28 (by decide)
                have r29 : vs 29 = .int .i64 q.p := hrO 29 (by decide)
                have r30 : vs 30 = .bool (decide (q.p ∈ ({ p with ms := p.ms.filter (fun m => !lateM q.n m) } : Prt).row)) := hrO 30 (by decide)
                have r31 : vs 31 = .agg #[.int .i64 p.hold, .slice al1 nl1 cl1, .slice aw1 nw1 cw1] := hrO 31 (by decide)
                have r32 : vs 32 = .pointer (some ⟨wr.heap.size, 1, none⟩) := hrO 32 (by decide)
                have r33 : vs 33 = .int .i64 q.p := hrO 33 (by decide)
                have r34 : vs 34 = .bool (decide (q.p ∈ ({ p with ms := p.ms.filter (fun m => !lateM q.n m) } : Prt).row)) := hrO 34 (by decide)
                have r35 : vs 35 = .bool false := hrO 35 (by decide)
                have r36 : vs 36 = .bool false := hrO 36 (by decide)
                intro a hF'; clear hF hrO; have hF := hF'; clear hF'
                simp only [List.take_succ_cons, List.take_zero, E.putsM, r0, r1, r2, r3, r4, r5, r6, r7, r8, r9, r10, r11, r13, r14, r15, r16, r17, r18, r19, r21, r23, r24, r25, r26, r27, r28, r29, r30, r31, r32, r33, r34, r35, r36] at hF
                clear r0 r1 r2 r3 r4 r5 r6 r7 r8 r9 r10 r11 r13 r14 r15 r16 r17 r18 r19 r21 r23 r24 r25 r26 r27 r28 r29 r30 r31 r32 r33 r34 r35 r36
                replace hP := hP.below hb160
                replace p6 := p6.below hb160
                replace hR := hR.below hb160
                replace p8 := p8.below hb160
                replace hC := hC.below hb160
                have z161 : w151.heap.size ≤ w159.heap.size := hb160.size
                clear hb160 hgO
                simp only [List.drop_succ_cons, List.drop_zero]
                refine wpList_nil ?_
                replace hF := hF.sub (m' := [(210, .bool false), (7, .int .i64 (i : Int)), (1, .slice a3 ys.length c3), (5, .pointer (some ⟨pb, 0, none⟩)), (6, .pointer (some ⟨w8.heap.size, 0, none⟩))]) ⟨rfl, rfl, rfl, rfl, rfl, trivial⟩
                refine E.then_norm (hK34 _ _ ?_)
                refine E.condF rfl (hF.at 210 rfl) ?_
                refine wp_skip ?_
                refine E.in_norm ?_
                refine E.then_norm (hK10 _ _ ?_)
                refine wp_region_lit ?_  -- R7
                refine E.val (d := 40) (v := .int .i64 (i : Int)) (w' := w159) rfl rfl rfl hF (by exact E.xMv rfl (hF.at 7 rfl)) ?_
                clear hF a; intro a hF
                refine E.val (d := 41) (v := .int .i64 ((i : Int) + 1)) (w' := w159) rfl rfl rfl hF (by have hr : IntKind.i64.wrap ((i : Int) + 1) = (i : Int) + 1 := E.wrapI (by omega) (by omega); have e40 : a.tmps[40]?.getD undef = .int .i64 (i : Int) := hF.at 40 rfl; simp [go_sem, e40, hr]) ?_
                clear hF a; intro a hF
                refine E.val (d := 7) (v := .int .i64 ((i : Int) + 1)) (w' := w159) rfl rfl rfl hF (by exact E.xAs rfl (hF.at 41 rfl)) ?_
                clear hF a; intro a hF
                refine wpList_nil ?_
                refine E.then_norm ?_
                replace hR := hR.mono (okr' := (fun x => (w15.heap.size ≤ x) ∧ (¬ M1 x))) (okb' := (fun x => x < w.heap.size)) (fun x hx hl => by obtain ⟨hx0, hx1, hx2, hx3⟩ := hx; exact ⟨hx0, hx1⟩) (fun _ h _ => h)
                exact ⟨_, by omega, i + 1, al1, nl1, cl1, aw1, nw1, cw1, ({ p with ms := p.ms.filter (fun m => !lateM q.n m) } : Prt), M1, W_hP, rfl, hF.sub (by exact ⟨rfl, rfl, rfl, rfl, trivial⟩), hC, by omega, hP, p6, hR, by omega, by simpa using (by omega : p.s ≤ (i : Int) + 1), by simpa using (by omega : p.row.length ≤ i + 1), hge, nb13⟩
              ·
                refine E.condF rfl (((hF.at 135 rfl).trans (congrArg Value.bool hc134))) ?_
                refine wp_seq_k fun K35 hK35 => ?_
                refine wp_region_lit ?_  -- R33
                refine E.val (d := 152) (v := .bool (K == 8)) (w' := w28) rfl rfl rfl hF (by have e47 : a.tmps[47]?.getD undef = .int .i64 K := hF.at 47 rfl; simp [go_sem, e47]) ?_
                clear hF a; intro a hF
                refine E.val (d := 151) (v := .bool (K == 8)) (w' := w28) rfl rfl rfl hF (by exact E.xAs rfl (hF.at 152 rfl)) ?_
                clear hF a; intro a hF
                refine wpList_nil ?_
                replace hF := hF.sub (m' := [(151, .bool (K == 8)), (9, .bool true), (8, .pointer (some ⟨wr.heap.size, 0, none⟩)), (7, .int .i64 (i : Int)), (1, .slice a3 ys.length c3), (5, .pointer (some ⟨pb, 0, none⟩)), (6, .pointer (some ⟨w8.heap.size, 0, none⟩))]) ⟨rfl, rfl, rfl, rfl, rfl, rfl, rfl, trivial⟩
                refine E.then_norm (hK35 _ _ ?_)
                rcases E.bsplit (K == 8) with hc162 | hc162
                ·
                  refine E.condT rfl (((hF.at 151 rfl).trans (congrArg Value.bool hc162))) ?_
                  refine wp_seq_k fun K36 hK36 => ?_
                  refine wp_region_lit ?_  -- R34
                  refine E.val (d := 153) (v := .pointer (some ⟨wr.heap.size, 1, none⟩)) (w' := w28) rfl rfl rfl hF (by have e8 : a.tmps[8]?.getD undef = .pointer (some ⟨wr.heap.size, 0, none⟩) := hF.at 8 rfl; simp [go_sem, e8]) ?_
                  clear hF a; intro a hF
                  refine E.val (d := 154) (v := .int .i64 q.p) (w' := w28) rfl rfl rfl hF (by have c1 : w28.cell? ⟨wr.heap.size, 1, none⟩ = some (.int .i64 q.p) := p8.cell 1; have e153 : a.tmps[153]?.getD undef = .pointer (some ⟨wr.heap.size, 1, none⟩) := hF.at 153 rfl; simp [go_sem, e153, c1]) ?_
                  clear hF a; intro a hF
                  refine E.val (d := 155) (v := .int .i64 (q.p.tmod 5)) (w' := w28) rfl rfl rfl hF (by have e154 : a.tmps[154]?.getD undef = .int .i64 q.p := hF.at 154 rfl; simp [go_sem, e154]) ?_
                  clear hF a; intro a hF
                  refine E.val (d := 156) (v := .bool ((q.p.tmod 5) == 0)) (w' := w28) rfl rfl rfl hF (by have e155 : a.tmps[155]?.getD undef = .int .i64 (q.p.tmod 5) := hF.at 155 rfl; simp [go_sem, e155]) ?_
                  clear hF a; intro a hF
                  refine wpList_nil ?_
                  refine E.then_norm (hK36 _ _ ?_)
                  rcases E.bsplit ((q.p.tmod 5) == 0) with hc163 | hc163
                  ·
                    refine E.condT rfl (((hF.at 156 rfl).trans (congrArg Value.bool hc163))) ?_
                    refine wp_seq_k fun K37 hK37 => ?_
                    have hPlt := hP.lt
                    refine wp_region_lit ?_  -- R35
                    refine E.val (d := 158) (v := .pointer (some ⟨pb, 0, none⟩)) (w' := w28) rfl rfl rfl hF (by exact E.xMv rfl (hF.at 5 rfl)) ?_
                    clear hF a; intro a hF
                    refine E.call (f := 21) (xs := #[.pointer (some ⟨pb, 0, none⟩)]) rfl rfl rfl hF (by have e158 : a.tmps[158]?.getD undef = .pointer (some ⟨pb, 0, none⟩) := hF.at 158 rfl; simp [go_sem, e158]) (flush_x hP (by omega)) ?_
                    rintro e w164 ⟨aj, cj, ai, ci, qj, rfl, hqj, hmj, hrow0, hP1, hc1⟩
                    have hlj : qj.length = p.ms.length := by rw [← hqj, List.length_map]
                    have hsub : ∀ b, M_hP b → M_hP b ∨ w28.heap.size ≤ b := fun _ h => .inl h
                    refine ⟨_, rfl, ?_⟩
                    clear hF a; intro a hF
                    have z165 := hc1.size
                    have ol_p6 := p6.lt
                    have ol_p8 := p8.lt
                    replace p6 := p6.chg hc1 nb13.1
                    replace hR := (hR.mono (okr' := fun x => (fun x => (w15.heap.size ≤ x) ∧ (¬ M_hP x) ∧ (x ≠ wr.heap.size)) x ∧ x < w28.heap.size) (okb' := (fun x => x < w.heap.size)) (fun x hx hl => ⟨hx, hl⟩) (fun _ h _ => h))
                    replace hR := (hR.kept hc1.size (fun x hx hl => hc1.block x hl (fun hn => hx.elim (fun hx => by obtain ⟨⟨hx0, hx1, hx2⟩, hy⟩ := hx; exact hx1 hn) (fun hx => by (try dsimp only at hx); have := hge x hn; omega)))).mono (okr' := (fun x => (w15.heap.size ≤ x) ∧ (¬ M_hP x) ∧ (x ≠ wr.heap.size))) (okb' := (fun x => x < w.heap.size)) (fun x hx _ => by obtain ⟨⟨hx0, hx1, hx2⟩, hy⟩ := hx; exact ⟨hx0, fun e => (hsub x e).elim hx1 (fun h => by omega), hx2⟩) (fun _ h _ => h)
                    replace p8 := p8.chg hc1 nb23.1
                    replace hC := hC.trans hc1 (fun x hx => .inr (hge x hx))
                    replace nb13 : ¬ M_hP (w8.heap.size) ∧ ¬ W_hP (w8.heap.size) := ⟨fun h => (hsub _ h).elim nb13.1 (fun h => by have := ol_p6; omega), nb13.2⟩
                    replace nb23 : ¬ M_hP (wr.heap.size) ∧ ¬ W_hP (wr.heap.size) := ⟨fun h => (hsub _ h).elim nb23.1 (fun h => by have := ol_p8; omega), nb23.2⟩
                    replace hge : ∀ x, M_hP x → w.heap.size ≤ x := fun x h => (hsub x h).elim (hge x) (fun h => by omega)
                    replace hP := hP1; clear hsub hc1 ol_p6 ol_p8
                    have hrow := hrow0.mono (ok' := fun _ => True) (fun _ _ _ => trivial); clear hrow0
                    refine E.val (d := 157) (v := .tuple #[.slice aj p.ms.length cj, .slice ai p.row.length ci]) (w' := w164) rfl rfl rfl hF (by exact E.xMv rfl (hF.at 159 rfl)) ?_
                    clear hF a; intro a hF
                    refine E.val (d := 160) (v := .slice aj p.ms.length cj) (w' := w164) rfl rfl rfl hF (by exact E.xExt (xs := [.slice aj p.ms.length cj, .slice ai p.row.length ci]) rfl (hF.at 157 rfl) rfl) ?_
                    clear hF a; intro a hF
                    refine E.val (d := 161) (v := .slice ai p.row.length ci) (w' := w164) rfl rfl rfl hF (by exact E.xExt (xs := [.slice aj p.ms.length cj, .slice ai p.row.length ci]) rfl (hF.at 157 rfl) rfl) ?_
                    clear hF a; intro a hF
                    refine E.val (d := 26) (v := .slice aj p.ms.length cj) (w' := w164) rfl rfl rfl hF (by exact E.xAs rfl (hF.at 160 rfl)) ?_
                    clear hF a; intro a hF
                    refine E.val (d := 27) (v := .slice ai p.row.length ci) (w' := w164) rfl rfl rfl hF (by exact E.xAs rfl (hF.at 161 rfl)) ?_
                    clear hF a; intro a hF
                    refine wpList_nil ?_
                    replace hF := hF.sub (m' := [(27, .slice ai p.row.length ci), (26, .slice aj p.ms.length cj), (8, .pointer (some ⟨wr.heap.size, 0, none⟩)), (7, .int .i64 (i : Int)), (1, .slice a3 ys.length c3), (5, .pointer (some ⟨pb, 0, none⟩)), (6, .pointer (some ⟨w8.heap.size, 0, none⟩))]) ⟨rfl, rfl, rfl, rfl, rfl, rfl, rfl, trivial⟩
                    refine E.then_norm (hK37 _ _ ?_)
                    refine wp_seq_k fun K38 hK38 => ?_
                    refine wp_region_lit ?_  -- R36
                    refine E.val (d := 162) (v := .slice aj p.ms.length cj) (w' := w164) rfl rfl rfl hF (by exact E.xMv rfl (hF.at 26 rfl)) ?_
                    clear hF a; intro a hF
                    refine E.val (d := 163) (v := .pointer (some ⟨w8.heap.size, 1, none⟩)) (w' := w164) rfl rfl rfl hF (by have e6 : a.tmps[6]?.getD undef = .pointer (some ⟨w8.heap.size, 0, none⟩) := hF.at 6 rfl; simp [go_sem, e6]) ?_
                    clear hF a; intro a hF
                    refine E.val (d := 164) (v := .slice al nl cl) (w' := w164) rfl rfl rfl hF (by have c1 : w164.cell? ⟨w8.heap.size, 1, none⟩ = some (.slice al nl cl) := p6.cell 1; have e163 : a.tmps[163]?.getD undef = .pointer (some ⟨w8.heap.size, 1, none⟩) := hF.at 163 rfl; simp [go_sem, e163, c1]) ?_
                    clear hF a; intro a hF
                    refine E.call (f := 22) (xs := #[.slice aj p.ms.length cj, .slice al nl cl]) rfl rfl rfl hF (by have e162 : a.tmps[162]?.getD undef = .slice aj p.ms.length cj := hF.at 162 rfl; have e164 : a.tmps[164]?.getD undef = .slice al nl cl := hF.at 164 rfl; simp [go_sem, e162, e164]) (same_ref hmj hqj hR) ?_
                    rintro e w167 ⟨rfl, hb166⟩
                    refine ⟨_, rfl, ?_⟩
                    clear hF a; intro a hF
                    replace hP := hP.below hb166
                    replace p6 := p6.below hb166
                    replace hR := hR.below hb166
                    replace p8 := p8.below hb166
                    replace hrow := hrow.below hb166
                    replace hC := hC.below hb166
                    have z168 : w164.heap.size ≤ w167.heap.size := hb166.size
                    clear hb166
                    refine E.val (d := 166) (v := .bool true) (w' := w167) rfl rfl rfl hF (by exact E.xMv rfl (hF.at 165 rfl)) ?_
                    clear hF a; intro a hF
                    refine E.valG (d := 167) (v := .slice ai p.row.length ci) (w' := w167) rfl rfl (hF.at 166 rfl) rfl rfl hF (by exact E.xMv rfl (hF.at 27 rfl)) ?_
                    clear hF a; intro a hF
                    refine E.valG (d := 168) (v := .agg #[.int .i64 p.hold, .slice al nl cl, .slice aw nw cw]) (w' := w167) rfl rfl (hF.at 166 rfl) rfl rfl hF (by exact xLoad rfl (hF.at 6 rfl) p6 Try.underlying56 rfl (by kernel_rfl)) ?_
                    clear hF a; intro a hF
                    refine E.callG (f := 30) (xs := #[.agg #[.int .i64 p.hold, .slice al nl cl, .slice aw nw cw]]) rfl rfl (hF.at 166 rfl) rfl rfl hF (by have e168 : a.tmps[168]?.getD undef = .agg #[.int .i64 p.hold, .slice al nl cl, .slice aw nw cw] := hF.at 168 rfl; simp [go_sem, e168]) (waiting_p hR _ (by omega)) ?_
                    rintro e w170 ⟨v, rfl, hY, hb169⟩
                    obtain ⟨aY, cY, rfl⟩ := hY.shape
                    refine ⟨_, rfl, ?_⟩
                    clear hF a; intro a hF
                    replace hP := hP.below hb169
                    replace p6 := p6.below hb169
                    replace hR := hR.below hb169
                    replace p8 := p8.below hb169
                    replace hrow := hrow.below hb169
                    replace hC := hC.below hb169
                    have z171 : w167.heap.size ≤ w170.heap.size := hb169.size
                    clear hb169
                    refine E.callG (f := 23) (xs := #[.slice ai p.row.length ci, .slice aY p.row.length cY]) rfl rfl (hF.at 166 rfl) rfl rfl hF (by have e167 : a.tmps[167]?.getD undef = .slice ai p.row.length ci := hF.at 167 rfl; have e169 : a.tmps[169]?.getD undef = .slice aY p.row.length cY := hF.at 169 rfl; simp [go_sem, e167, e169]) (ints_same hrow hY) ?_
                    rintro e w173 ⟨rfl, hb172⟩
                    refine ⟨_, rfl, ?_⟩
                    clear hF a; intro a hF
                    replace hP := hP.below hb172
                    replace p6 := p6.below hb172
                    replace hR := hR.below hb172
                    replace p8 := p8.below hb172
                    replace hrow := hrow.below hb172
                    replace hC := hC.below hb172
                    have z174 : w170.heap.size ≤ w173.heap.size := hb172.size
                    clear hb172
                    refine E.val (d := 171) (v := .bool true) (w' := w173) rfl rfl rfl hF (by have e166 : a.tmps[166]?.getD undef = .bool true := hF.at 166 rfl; have e170 : a.tmps[170]?.getD undef = .bool true := hF.at 170 rfl; simp [go_sem, e166, e170]) ?_
                    clear hF a; intro a hF
                    refine E.val (d := 9) (v := .bool true) (w' := w173) rfl rfl rfl hF (by exact E.xAs rfl (hF.at 171 rfl)) ?_
                    clear hF a; intro a hF
                    refine wpList_nil ?_
                    clear hmj hrow
                    replace hF := hF.sub (m' := [(9, .bool true), (8, .pointer (some ⟨wr.heap.size, 0, none⟩)), (7, .int .i64 (i : Int)), (1, .slice a3 ys.length c3), (5, .pointer (some ⟨pb, 0, none⟩)), (6, .pointer (some ⟨w8.heap.size, 0, none⟩))]) ⟨rfl, rfl, rfl, rfl, rfl, rfl, trivial⟩
                    refine E.then_norm (hK38 _ _ ?_)
                    refine wp_seq_k fun K39 hK39 => ?_
                    refine wp_region_lit ?_  -- R37
                    refine E.val (d := 172) (v := .pointer (some ⟨w8.heap.size, 1, none⟩)) (w' := w173) rfl rfl rfl hF (by have e6 : a.tmps[6]?.getD undef = .pointer (some ⟨w8.heap.size, 0, none⟩) := hF.at 6 rfl; simp [go_sem, e6]) ?_
                    clear hF a; intro a hF
                    refine E.eff (w' := w173.setCell ⟨w8.heap.size, 1, none⟩ (.slice none 0 0)) rfl rfl (by have c := p6.cell 1; have fz := p6.frozen 1; have lt := p6.lt; simp only [List.getElem?_cons_zero, List.getElem?_cons_succ] at c; have e172 : a.tmps[172]?.getD undef = .pointer (some ⟨w8.heap.size, 1, none⟩) := hF.at 172 rfl; simp [go_sem, e172, c, fz, lt]) ?_
                    have hc175 : Chg (fun x => x = w8.heap.size) w173 (w173.setCell ⟨w8.heap.size, 1, none⟩ (.slice none 0 0)) := E.Chg.set1 _ _ _ _
                    have z177 := hc175.size
                    replace hP := hP.chg hc175 (fun y hy => by have hy : y = w8.heap.size := hy; subst hy; exact nb13)
                    replace hR := hR.kept hc175.size (fun x hx hl => hc175.block x hl (fun hn => hx.elim (fun hx => by have hn : x = w8.heap.size := hn; obtain ⟨hx0, hx1, hx2⟩ := hx; omega) (fun hx => by (try dsimp only at hx); exact by have hn : x = w8.heap.size := hn; omega)))
                    replace p8 := p8.chg hc175 (fun e => by have e : wr.heap.size = w8.heap.size := e; omega)
                    replace p6 : pts (w173.setCell ⟨w8.heap.size, 1, none⟩ (.slice none 0 0)) (w8.heap.size) [.int .i64 p.hold, .slice none 0 0, .slice aw nw cw] 56 := E.pts.set1 p6 rfl
                    replace hC := hC.trans hc175 (fun x hx => .inr (by omega))
                    clear hc175; generalize w173.setCell ⟨w8.heap.size, 1, none⟩ (.slice none 0 0) = w176 at hC z177 hP p6 hR p8 ⊢
                    refine wpList_nil ?_
                    refine E.then_norm (hK39 _ _ ?_)
                    refine wp_region_lit ?_  -- R38
                    refine E.val (d := 173) (v := .pointer (some ⟨w8.heap.size, 2, none⟩)) (w' := w176) rfl rfl rfl hF (by have e6 : a.tmps[6]?.getD undef = .pointer (some ⟨w8.heap.size, 0, none⟩) := hF.at 6 rfl; simp [go_sem, e6]) ?_
                    clear hF a; intro a hF
                    refine E.eff (w' := w176.setCell ⟨w8.heap.size, 2, none⟩ (.slice none 0 0)) rfl rfl (by have c := p6.cell 2; have fz := p6.frozen 2; have lt := p6.lt; simp only [List.getElem?_cons_zero, List.getElem?_cons_succ] at c; have e173 : a.tmps[173]?.getD undef = .pointer (some ⟨w8.heap.size, 2, none⟩) := hF.at 173 rfl; simp [go_sem, e173, c, fz, lt]) ?_
                    have hc178 : Chg (fun x => x = w8.heap.size) w176 (w176.setCell ⟨w8.heap.size, 2, none⟩ (.slice none 0 0)) := E.Chg.set1 _ _ _ _
                    have z180 := hc178.size
                    replace hP := hP.chg hc178 (fun y hy => by have hy : y = w8.heap.size := hy; subst hy; exact nb13)
                    replace hR := hR.kept hc178.size (fun x hx hl => hc178.block x hl (fun hn => hx.elim (fun hx => by have hn : x = w8.heap.size := hn; obtain ⟨hx0, hx1, hx2⟩ := hx; omega) (fun hx => by (try dsimp only at hx); exact by have hn : x = w8.heap.size := hn; omega)))
                    replace p8 := p8.chg hc178 (fun e => by have e : wr.heap.size = w8.heap.size := e; omega)
                    replace p6 : pts (w176.setCell ⟨w8.heap.size, 2, none⟩ (.slice none 0 0)) (w8.heap.size) [.int .i64 p.hold, .slice none 0 0, .slice none 0 0] 56 := E.pts.set1 p6 rfl
                    replace hC := hC.trans hc178 (fun x hx => .inr (by omega))
                    clear hc178; generalize w176.setCell ⟨w8.heap.size, 2, none⟩ (.slice none 0 0) = w179 at hC z180 hP p6 hR p8 ⊢
                    refine wpList_nil ?_
                    replace hR := hR.flush; have h1 : (flushP p).s = p.s ∧ (flushP p).row.length = 0 := ⟨rfl, rfl⟩
                    refine E.in_norm ?_
                    refine E.then_norm (hK13 _ _ ?_)
                    refine wp_seq_k fun K40 hK40 => ?_
                    have hln := hR.lens.1; have hps1 : (flushP p).s ≤ (i : Int) + 1 := (by omega); have hpr1 : (flushP p).row.length ≤ i + 1 := (by omega)
                    have hk39 : (!(((flushP p).ms.length : Int) == 0)) = false := by simp [flushP]
                    refine E.tab 37 [Sp.eq (.bool true), Sp.eq (.bool false), Sp.eq (.bool false), Sp.eq (.pointer (some ⟨pb, 0, none⟩)), Sp.eq (.int .i64 ((flushP p).ms.length : Int)), Sp.eq (.pointer (some ⟨w8.heap.size, 1, none⟩)), Sp.eq (.slice none 0 0), Sp.eq (.int .i64 0), Sp.eq (.bool (!(((flushP p).ms.length : Int) == 0))), Sp.eq (.bool (!(((flushP p).ms.length : Int) == 0))), Sp.eq (.bool (!(((flushP p).ms.length : Int) == 0))), Sp.eq (.pointer (some ⟨pb, 0, none⟩)), Sp.of (fun v u => ∃ (aA : Option Addr) (cA : Nat) (qA : List (Value × Msg)), v = .slice aA qA.length cA ∧ MsgsAt (fun _ => True) (fun _ => True) u (.slice aA qA.length cA) qA ∧ qA.map Prod.snd = (flushP p).ms) (fun v u u' ⟨aA, cA, qA, e_186, hAm, hAq⟩ hb => ⟨aA, cA, qA, e_186, hAm.below hb, hAq⟩), Sp.eq (.pointer (some ⟨w8.heap.size, 1, none⟩)), Sp.eq (.slice none 0 0), Sp.eq (.bool true), Sp.eq (.bool false), Sp.eq (.bool false), Sp.eq (.bool false), Sp.eq (.pointer (some ⟨pb, 0, none⟩)), Sp.of (fun v u => ∃ (aX : Option Addr) (cX : Nat), v = .slice aX ((flushP p).row.length) cX ∧ IntsAt (fun _ => True) u (.slice aX (flushP p).row.length cX) (flushP p).row) (fun v u u' ⟨aX, cX, e_194, hX⟩ hb => ⟨aX, cX, e_194, hX.below hb⟩), Sp.eq (.agg #[.int .i64 p.hold, .slice none 0 0, .slice none 0 0]), Sp.of (fun v u => ∃ (aY : Option Addr) (cY : Nat), v = .slice aY ((flushP p).row.length) cY ∧ IntsAt (fun _ => True) u (.slice aY (flushP p).row.length cY) (flushP p).row) (fun v u u' ⟨aY, cY, e_196, hY⟩ hb => ⟨aY, cY, e_196, hY.below hb⟩), Sp.eq (.bool true), Sp.eq (.bool false), Sp.eq (.bool false), Sp.eq (.bool false), Sp.eq (.pointer (some ⟨pb, 0, none⟩)), Sp.eq (.pointer (some ⟨wr.heap.size, 1, none⟩)), Sp.eq (.int .i64 q.p), Sp.eq (.bool (decide (q.p ∈ (flushP p).row))), Sp.eq (.agg #[.int .i64 p.hold, .slice none 0 0, .slice none 0 0]), Sp.eq (.pointer (some ⟨wr.heap.size, 1, none⟩)), Sp.eq (.int .i64 q.p), Sp.eq (.bool (decide (q.p ∈ (flushP p).row))), Sp.eq (.bool false), Sp.eq (.bool false)] hF (fun _ _ _ _ _ h => h) (by kernel_rfl) (by kernel_rfl) ⟨?_, ?_, ?_, ?_, ?_, ?_, ?_, ?_, ?_, ?_, ?_, ?_, ?_, ?_, ?_, ?_, ?_, ?_, ?_, ?_, ?_, ?_, ?_, ?_, ?_, ?_, ?_, ?_, ?_, ?_, ?_, ?_, ?_, ?_, ?_, ?_, ?_, trivial⟩ ?_  -- R39
                    · intro ac gs u hbO hgO hO
                      refine opFree rfl ?_
                      exact relRun (v := .bool true) (w' := u) (by exact E.xMv rfl ((hO.inm 9 rfl (hF.ev 9 _ rfl)))) (okP hgO rfl)
                    · intro ac gs u hbO hgO hO
                      refine opFree rfl ?_
                      exact relRun (v := .bool false) (w' := u) (by have e174 : ac.tmps[174]?.getD undef = .bool true := (show ac.tmps[174]?.getD undef = .bool true from hO.tm 0 174 rfl rfl); simp [go_sem, e174]) (okP hgO rfl)
                    · intro ac gs u hbO hgO hO
                      refine opFree rfl ?_
                      exact relRun (v := .bool false) (w' := u) (by exact E.xMv rfl ((show ac.tmps[175]?.getD undef = .bool false from hO.tm 1 175 rfl rfl))) (okP hgO rfl)
                    · intro ac gs u hbO hgO hO
                      refine opWant 2 176 rfl rfl ((show ac.tmps[176]?.getD undef = .bool false from hO.tm 2 176 rfl rfl)) ?_
                      exact relRun (v := .pointer (some ⟨pb, 0, none⟩)) (w' := u) (by exact E.xMv rfl ((hO.inm 5 rfl (hF.ev 5 _ rfl)))) (okP hgO rfl)
                    · intro ac gs u hbO hgO hO
                      refine opWant 2 176 rfl rfl ((show ac.tmps[176]?.getD undef = .bool false from hO.tm 2 176 rfl rfl)) ?_
                      refine relCall (f := 18) (args := #[.pointer (some ⟨pb, 0, none⟩)]) (by have e177 : ac.tmps[177]?.getD undef = .pointer (some ⟨pb, 0, none⟩) := (show ac.tmps[177]?.getD undef = .pointer (some ⟨pb, 0, none⟩) from hO.tm 3 177 rfl rfl); simp [go_sem, e177]) ?_
                      refine Calls.mono (len_x (hP.below hbO)) ?_
                      rintro e u' ⟨rfl, rfl⟩
                      exact ⟨_, rfl, okP hgO rfl⟩
                    · intro ac gs u hbO hgO hO
                      refine opWant 2 176 rfl rfl ((show ac.tmps[176]?.getD undef = .bool false from hO.tm 2 176 rfl rfl)) ?_
                      exact relRun (v := .pointer (some ⟨w8.heap.size, 1, none⟩)) (w' := u) (by have e6 : ac.tmps[6]?.getD undef = .pointer (some ⟨w8.heap.size, 0, none⟩) := (hO.inm 6 rfl (hF.ev 6 _ rfl)); simp [go_sem, e6]) (okP hgO rfl)
                    · intro ac gs u hbO hgO hO
                      refine opWant 2 176 rfl rfl ((show ac.tmps[176]?.getD undef = .bool false from hO.tm 2 176 rfl rfl)) ?_
                      exact relRun (v := .slice none 0 0) (w' := u) (by have c1 : u.cell? ⟨w8.heap.size, 1, none⟩ = some (.slice none 0 0) := (p6.below hbO).cell 1; have e179 : ac.tmps[179]?.getD undef = .pointer (some ⟨w8.heap.size, 1, none⟩) := (show ac.tmps[179]?.getD undef = .pointer (some ⟨w8.heap.size, 1, none⟩) from hO.tm 5 179 rfl rfl); simp [go_sem, e179, c1]) (okP hgO rfl)
                    · intro ac gs u hbO hgO hO
                      refine opWant 2 176 rfl rfl ((show ac.tmps[176]?.getD undef = .bool false from hO.tm 2 176 rfl rfl)) ?_
                      exact relRun (v := .int .i64 0) (w' := u) (by have e180 : ac.tmps[180]?.getD undef = .slice none 0 0 := (show ac.tmps[180]?.getD undef = .slice none 0 0 from hO.tm 6 180 rfl rfl); simp [go_sem, e180]) (okP hgO rfl)
                    · intro ac gs u hbO hgO hO
                      refine opWant 2 176 rfl rfl ((show ac.tmps[176]?.getD undef = .bool false from hO.tm 2 176 rfl rfl)) ?_
                      exact relRun (v := .bool (!(((flushP p).ms.length : Int) == 0))) (w' := u) (by have e178 : ac.tmps[178]?.getD undef = .int .i64 ((flushP p).ms.length : Int) := (show ac.tmps[178]?.getD undef = .int .i64 ((flushP p).ms.length : Int) from hO.tm 4 178 rfl rfl); have e181 : ac.tmps[181]?.getD undef = .int .i64 0 := (show ac.tmps[181]?.getD undef = .int .i64 0 from hO.tm 7 181 rfl rfl); simp [go_sem, e178, e181, bne]) (okP hgO rfl)
                    · intro ac gs u hbO hgO hO
                      refine opFree rfl ?_
                      exact relRun (v := .bool (!(((flushP p).ms.length : Int) == 0))) (w' := u) (by have e176 : ac.tmps[176]?.getD undef = .bool false := (show ac.tmps[176]?.getD undef = .bool false from hO.tm 2 176 rfl rfl); have e182 : ac.tmps[182]?.getD undef = .bool (!(((flushP p).ms.length : Int) == 0)) := (show ac.tmps[182]?.getD undef = .bool (!(((flushP p).ms.length : Int) == 0)) from hO.tm 8 182 rfl rfl); simp [go_sem, e176, e182]) (okP hgO rfl)
                    · intro ac gs u hbO hgO hO
                      refine opFree rfl ?_
                      exact relRun (v := .bool (!(((flushP p).ms.length : Int) == 0))) (w' := u) (by exact E.xMv rfl ((show ac.tmps[183]?.getD undef = .bool (!(((flushP p).ms.length : Int) == 0)) from hO.tm 9 183 rfl rfl))) (okP hgO rfl)
                    · intro ac gs u hbO hgO hO
                      refine opWant 10 184 rfl rfl ((((show ac.tmps[184]?.getD undef = .bool (!(((flushP p).ms.length : Int) == 0)) from hO.tm 10 184 rfl rfl)).trans (congrArg Value.bool hk39))) ?_
                      exact relRun (v := .pointer (some ⟨pb, 0, none⟩)) (w' := u) (by exact E.xMv rfl ((hO.inm 5 rfl (hF.ev 5 _ rfl)))) (okP hgO rfl)
                    · intro ac gs u hbO hgO hO
                      refine opWant 10 184 rfl rfl ((((show ac.tmps[184]?.getD undef = .bool (!(((flushP p).ms.length : Int) == 0)) from hO.tm 10 184 rfl rfl)).trans (congrArg Value.bool hk39))) ?_
                      refine relCall (f := 20) (args := #[.pointer (some ⟨pb, 0, none⟩)]) (by have e185 : ac.tmps[185]?.getD undef = .pointer (some ⟨pb, 0, none⟩) := (show ac.tmps[185]?.getD undef = .pointer (some ⟨pb, 0, none⟩) from hO.tm 11 185 rfl rfl); simp [go_sem, e185]) ?_
                      refine Calls.mono (all_x (hP.below hbO)) ?_
                      rintro e u' ⟨v, qA, rfl, hAq, hAm, hb181⟩
                      obtain ⟨aA, cA, rfl⟩ := hAm.shape
                      exact ⟨_, rfl, okB hgO hb181 ⟨_, _, _, rfl, hAm.mono (fun _ _ _ => trivial) (fun _ _ _ => trivial), hAq⟩⟩
                    · intro ac gs u hbO hgO hO
                      refine opWant 10 184 rfl rfl ((((show ac.tmps[184]?.getD undef = .bool (!(((flushP p).ms.length : Int) == 0)) from hO.tm 10 184 rfl rfl)).trans (congrArg Value.bool hk39))) ?_
                      exact relRun (v := .pointer (some ⟨w8.heap.size, 1, none⟩)) (w' := u) (by have e6 : ac.tmps[6]?.getD undef = .pointer (some ⟨w8.heap.size, 0, none⟩) := (hO.inm 6 rfl (hF.ev 6 _ rfl)); simp [go_sem, e6]) (okP hgO rfl)
                    · intro ac gs u hbO hgO hO
                      refine opWant 10 184 rfl rfl ((((show ac.tmps[184]?.getD undef = .bool (!(((flushP p).ms.length : Int) == 0)) from hO.tm 10 184 rfl rfl)).trans (congrArg Value.bool hk39))) ?_
                      exact relRun (v := .slice none 0 0) (w' := u) (by have c1 : u.cell? ⟨w8.heap.size, 1, none⟩ = some (.slice none 0 0) := (p6.below hbO).cell 1; have e187 : ac.tmps[187]?.getD undef = .pointer (some ⟨w8.heap.size, 1, none⟩) := (show ac.tmps[187]?.getD undef = .pointer (some ⟨w8.heap.size, 1, none⟩) from hO.tm 13 187 rfl rfl); simp [go_sem, e187, c1]) (okP hgO rfl)
                    · intro ac gs u hbO hgO hO
                      obtain ⟨aA, cA, qA, e_186, hAm, hAq⟩ := hO.tm 12 186 rfl rfl
                      refine opWant 10 184 rfl rfl ((((show ac.tmps[184]?.getD undef = .bool (!(((flushP p).ms.length : Int) == 0)) from hO.tm 10 184 rfl rfl)).trans (congrArg Value.bool hk39))) ?_
                      refine relCall (f := 22) (args := #[.slice aA qA.length cA, .slice none 0 0]) (by have e186 : ac.tmps[186]?.getD undef = .slice aA qA.length cA := e_186; have e188 : ac.tmps[188]?.getD undef = .slice none 0 0 := (show ac.tmps[188]?.getD undef = .slice none 0 0 from hO.tm 14 188 rfl rfl); simp [go_sem, e186, e188]) ?_
                      refine Calls.mono (same_ref hAm hAq (hR.below hbO)) ?_
                      rintro e u' ⟨rfl, hb182⟩
                      exact ⟨_, rfl, okB hgO hb182 rfl⟩
                    · intro ac gs u hbO hgO hO
                      refine opWant 10 184 rfl rfl ((((show ac.tmps[184]?.getD undef = .bool (!(((flushP p).ms.length : Int) == 0)) from hO.tm 10 184 rfl rfl)).trans (congrArg Value.bool hk39))) ?_
                      exact relRun (v := .bool false) (w' := u) (by have e189 : ac.tmps[189]?.getD undef = .bool true := (show ac.tmps[189]?.getD undef = .bool true from hO.tm 15 189 rfl rfl); simp [go_sem, e189]) (okP hgO rfl)
                    · intro ac gs u hbO hgO hO
                      refine opFree rfl ?_
                      exact relRun (v := .bool false) (w' := u) (by have e184 : ac.tmps[184]?.getD undef = .bool (!(((flushP p).ms.length : Int) == 0)) := (show ac.tmps[184]?.getD undef = .bool (!(((flushP p).ms.length : Int) == 0)) from hO.tm 10 184 rfl rfl); have e190 : ac.tmps[190]?.getD undef = .bool false := (show ac.tmps[190]?.getD undef = .bool false from hO.tm 16 190 rfl rfl); simp [go_sem, e184, e190, hk39]) (okP hgO rfl)
                    · intro ac gs u hbO hgO hO
                      refine opFree rfl ?_
                      exact relRun (v := .bool false) (w' := u) (by exact E.xMv rfl ((show ac.tmps[191]?.getD undef = .bool false from hO.tm 17 191 rfl rfl))) (okP hgO rfl)
                    · intro ac gs u hbO hgO hO
                      refine opWant 18 192 rfl rfl ((show ac.tmps[192]?.getD undef = .bool false from hO.tm 18 192 rfl rfl)) ?_
                      exact relRun (v := .pointer (some ⟨pb, 0, none⟩)) (w' := u) (by exact E.xMv rfl ((hO.inm 5 rfl (hF.ev 5 _ rfl)))) (okP hgO rfl)
                    · intro ac gs u hbO hgO hO
                      refine opWant 18 192 rfl rfl ((show ac.tmps[192]?.getD undef = .bool false from hO.tm 18 192 rfl rfl)) ?_
                      refine relCall (f := 11) (args := #[.pointer (some ⟨pb, 0, none⟩)]) (by have e193 : ac.tmps[193]?.getD undef = .pointer (some ⟨pb, 0, none⟩) := (show ac.tmps[193]?.getD undef = .pointer (some ⟨pb, 0, none⟩) from hO.tm 19 193 rfl rfl); simp [go_sem, e193]) ?_
                      refine Calls.mono (waiting_x (hP.below hbO) (by omega)) ?_
                      rintro e u' ⟨v, rfl, hX, hb183⟩
                      obtain ⟨aX, cX, rfl⟩ := hX.shape
                      exact ⟨_, rfl, okB hgO hb183 ⟨_, _, rfl, hX.mono (fun _ _ _ => trivial)⟩⟩
                    · intro ac gs u hbO hgO hO
                      refine opWant 18 192 rfl rfl ((show ac.tmps[192]?.getD undef = .bool false from hO.tm 18 192 rfl rfl)) ?_
                      exact relRun (v := .agg #[.int .i64 p.hold, .slice none 0 0, .slice none 0 0]) (w' := u) (by exact xLoad rfl ((hO.inm 6 rfl (hF.ev 6 _ rfl))) (p6.below hbO) Try.underlying56 rfl (by kernel_rfl)) (okP hgO rfl)
                    · intro ac gs u hbO hgO hO
                      refine opWant 18 192 rfl rfl ((show ac.tmps[192]?.getD undef = .bool false from hO.tm 18 192 rfl rfl)) ?_
                      refine relCall (f := 30) (args := #[.agg #[.int .i64 p.hold, .slice none 0 0, .slice none 0 0]]) (by have e195 : ac.tmps[195]?.getD undef = .agg #[.int .i64 p.hold, .slice none 0 0, .slice none 0 0] := (show ac.tmps[195]?.getD undef = .agg #[.int .i64 p.hold, .slice none 0 0, .slice none 0 0] from hO.tm 21 195 rfl rfl); simp [go_sem, e195]) ?_
                      refine Calls.mono (waiting_p (hR.below hbO) _ (by omega)) ?_
                      rintro e u' ⟨v, rfl, hY, hb184⟩
                      obtain ⟨aY, cY, rfl⟩ := hY.shape
                      exact ⟨_, rfl, okB hgO hb184 ⟨_, _, rfl, hY.mono (fun _ _ _ => trivial)⟩⟩
                    · intro ac gs u hbO hgO hO
                      obtain ⟨aX, cX, e_194, hX⟩ := hO.tm 20 194 rfl rfl
                      obtain ⟨aY, cY, e_196, hY⟩ := hO.tm 22 196 rfl rfl
                      refine opWant 18 192 rfl rfl ((show ac.tmps[192]?.getD undef = .bool false from hO.tm 18 192 rfl rfl)) ?_
                      refine relCall (f := 23) (args := #[.slice aX ((flushP p).row.length) cX, .slice aY ((flushP p).row.length) cY]) (by have e194 : ac.tmps[194]?.getD undef = .slice aX ((flushP p).row.length) cX := e_194; have e196 : ac.tmps[196]?.getD undef = .slice aY ((flushP p).row.length) cY := e_196; simp [go_sem, e194, e196]) ?_
                      refine Calls.mono (ints_same hX hY) ?_
                      rintro e u' ⟨rfl, hb185⟩
                      exact ⟨_, rfl, okB hgO hb185 rfl⟩
                    · intro ac gs u hbO hgO hO
                      refine opWant 18 192 rfl rfl ((show ac.tmps[192]?.getD undef = .bool false from hO.tm 18 192 rfl rfl)) ?_
                      exact relRun (v := .bool false) (w' := u) (by have e197 : ac.tmps[197]?.getD undef = .bool true := (show ac.tmps[197]?.getD undef = .bool true from hO.tm 23 197 rfl rfl); simp [go_sem, e197]) (okP hgO rfl)
                    · intro ac gs u hbO hgO hO
                      refine opFree rfl ?_
                      exact relRun (v := .bool false) (w' := u) (by have e192 : ac.tmps[192]?.getD undef = .bool false := (show ac.tmps[192]?.getD undef = .bool false from hO.tm 18 192 rfl rfl); have e198 : ac.tmps[198]?.getD undef = .bool false := (show ac.tmps[198]?.getD undef = .bool false from hO.tm 24 198 rfl rfl); simp [go_sem, e192, e198]) (okP hgO rfl)
                    · intro ac gs u hbO hgO hO
                      refine opFree rfl ?_
                      exact relRun (v := .bool false) (w' := u) (by exact E.xMv rfl ((show ac.tmps[199]?.getD undef = .bool false from hO.tm 25 199 rfl rfl))) (okP hgO rfl)
                    · intro ac gs u hbO hgO hO
                      refine opWant 26 200 rfl rfl ((show ac.tmps[200]?.getD undef = .bool false from hO.tm 26 200 rfl rfl)) ?_
                      exact relRun (v := .pointer (some ⟨pb, 0, none⟩)) (w' := u) (by exact E.xMv rfl ((hO.inm 5 rfl (hF.ev 5 _ rfl)))) (okP hgO rfl)
                    · intro ac gs u hbO hgO hO
                      refine opWant 26 200 rfl rfl ((show ac.tmps[200]?.getD undef = .bool false from hO.tm 26 200 rfl rfl)) ?_
                      exact relRun (v := .pointer (some ⟨wr.heap.size, 1, none⟩)) (w' := u) (by have e8 : ac.tmps[8]?.getD undef = .pointer (some ⟨wr.heap.size, 0, none⟩) := (hO.inm 8 rfl (hF.ev 8 _ rfl)); simp [go_sem, e8]) (okP hgO rfl)
                    · intro ac gs u hbO hgO hO
                      refine opWant 26 200 rfl rfl ((show ac.tmps[200]?.getD undef = .bool false from hO.tm 26 200 rfl rfl)) ?_
                      exact relRun (v := .int .i64 q.p) (w' := u) (by have c1 : u.cell? ⟨wr.heap.size, 1, none⟩ = some (.int .i64 q.p) := (p8.below hbO).cell 1; have e202 : ac.tmps[202]?.getD undef = .pointer (some ⟨wr.heap.size, 1, none⟩) := (show ac.tmps[202]?.getD undef = .pointer (some ⟨wr.heap.size, 1, none⟩) from hO.tm 28 202 rfl rfl); simp [go_sem, e202, c1]) (okP hgO rfl)
                    · intro ac gs u hbO hgO hO
                      refine opWant 26 200 rfl rfl ((show ac.tmps[200]?.getD undef = .bool false from hO.tm 26 200 rfl rfl)) ?_
                      refine relCall (f := 19) (args := #[.pointer (some ⟨pb, 0, none⟩), .int .i64 q.p]) (by have e201 : ac.tmps[201]?.getD undef = .pointer (some ⟨pb, 0, none⟩) := (show ac.tmps[201]?.getD undef = .pointer (some ⟨pb, 0, none⟩) from hO.tm 27 201 rfl rfl); have e203 : ac.tmps[203]?.getD undef = .int .i64 q.p := (show ac.tmps[203]?.getD undef = .int .i64 q.p from hO.tm 29 203 rfl rfl); simp [go_sem, e201, e203]) ?_
                      refine Calls.mono (waits_x (hP.below hbO) _) ?_
                      rintro e u' ⟨rfl, rfl⟩
                      exact ⟨_, rfl, okP hgO rfl⟩
                    · intro ac gs u hbO hgO hO
                      refine opWant 26 200 rfl rfl ((show ac.tmps[200]?.getD undef = .bool false from hO.tm 26 200 rfl rfl)) ?_
                      exact relRun (v := .agg #[.int .i64 p.hold, .slice none 0 0, .slice none 0 0]) (w' := u) (by exact xLoad rfl ((hO.inm 6 rfl (hF.ev 6 _ rfl))) (p6.below hbO) Try.underlying56 rfl (by kernel_rfl)) (okP hgO rfl)
                    · intro ac gs u hbO hgO hO
                      refine opWant 26 200 rfl rfl ((show ac.tmps[200]?.getD undef = .bool false from hO.tm 26 200 rfl rfl)) ?_
                      exact relRun (v := .pointer (some ⟨wr.heap.size, 1, none⟩)) (w' := u) (by have e8 : ac.tmps[8]?.getD undef = .pointer (some ⟨wr.heap.size, 0, none⟩) := (hO.inm 8 rfl (hF.ev 8 _ rfl)); simp [go_sem, e8]) (okP hgO rfl)
                    · intro ac gs u hbO hgO hO
                      refine opWant 26 200 rfl rfl ((show ac.tmps[200]?.getD undef = .bool false from hO.tm 26 200 rfl rfl)) ?_
                      exact relRun (v := .int .i64 q.p) (w' := u) (by have c1 : u.cell? ⟨wr.heap.size, 1, none⟩ = some (.int .i64 q.p) := (p8.below hbO).cell 1; have e206 : ac.tmps[206]?.getD undef = .pointer (some ⟨wr.heap.size, 1, none⟩) := (show ac.tmps[206]?.getD undef = .pointer (some ⟨wr.heap.size, 1, none⟩) from hO.tm 32 206 rfl rfl); simp [go_sem, e206, c1]) (okP hgO rfl)
                    · intro ac gs u hbO hgO hO
                      refine opWant 26 200 rfl rfl ((show ac.tmps[200]?.getD undef = .bool false from hO.tm 26 200 rfl rfl)) ?_
                      refine relCall (f := 31) (args := #[.agg #[.int .i64 p.hold, .slice none 0 0, .slice none 0 0], .int .i64 q.p]) (by have e205 : ac.tmps[205]?.getD undef = .agg #[.int .i64 p.hold, .slice none 0 0, .slice none 0 0] := (show ac.tmps[205]?.getD undef = .agg #[.int .i64 p.hold, .slice none 0 0, .slice none 0 0] from hO.tm 31 205 rfl rfl); have e207 : ac.tmps[207]?.getD undef = .int .i64 q.p := (show ac.tmps[207]?.getD undef = .int .i64 q.p from hO.tm 33 207 rfl rfl); simp [go_sem, e205, e207]) ?_
                      refine Calls.mono (waits_p (hR.below hbO) _ _) ?_
                      rintro e u' ⟨rfl, hb186⟩
                      exact ⟨_, rfl, okB hgO hb186 rfl⟩
                    · intro ac gs u hbO hgO hO
                      refine opWant 26 200 rfl rfl ((show ac.tmps[200]?.getD undef = .bool false from hO.tm 26 200 rfl rfl)) ?_
                      exact relRun (v := .bool false) (w' := u) (by have e204 : ac.tmps[204]?.getD undef = .bool (decide (q.p ∈ (flushP p).row)) := (show ac.tmps[204]?.getD undef = .bool (decide (q.p ∈ (flushP p).row)) from hO.tm 30 204 rfl rfl); have e208 : ac.tmps[208]?.getD undef = .bool (decide (q.p ∈ (flushP p).row)) := (show ac.tmps[208]?.getD undef = .bool (decide (q.p ∈ (flushP p).row)) from hO.tm 34 208 rfl rfl); simp [go_sem, e204, e208]) (okP hgO rfl)
                    · intro ac gs u hbO hgO hO
                      refine opFree rfl ?_
                      exact relRun (v := .bool false) (w' := u) (by have e200 : ac.tmps[200]?.getD undef = .bool false := (show ac.tmps[200]?.getD undef = .bool false from hO.tm 26 200 rfl rfl); have e209 : ac.tmps[209]?.getD undef = .bool false := (show ac.tmps[209]?.getD undef = .bool false from hO.tm 35 209 rfl rfl); simp [go_sem, e200, e209]) (okP hgO rfl)
                    intro vs gs w187 hb188 hgO hrO
                    have r0 : vs 0 = .bool true := hrO 0 (by decide)
                    have r1 : vs 1 = .bool false := hrO 1 (by decide)
                    have r2 : vs 2 = .bool false := hrO 2 (by decide)
                    have r3 : vs 3 = .pointer (some ⟨pb, 0, none⟩) := hrO 3 (by decide)
                    have r4 : vs 4 = .int .i64 ((flushP p).ms.length : Int) := hrO 4 (by decide)
                    have r5 : vs 5 = .pointer (some ⟨w8.heap.size, 1, none⟩) := hrO 5 (by decide)
                    have r6 : vs 6 = .slice none 0 0 := hrO 6 (by decide)
                    have r7 : vs 7 = .int .i64 0 := hrO 7 (by decide)
                    have r8 : vs 8 = .bool (!(((flushP p).ms.length : Int) == 0)) := hrO 8 (by decide)
                    have r9 : vs 9 = .bool (!(((flushP p).ms.length : Int) == 0)) := hrO 9 (by decide)
                    have r10 : vs 10 = .bool (!(((flushP p).ms.length : Int) == 0)) := hrO 10 (by decide)
                    have r11 : vs 11 = .pointer (some ⟨pb, 0, none⟩) := hrO 11 (by decide)
                    have r13 : vs 13 = .pointer (some ⟨w8.heap.size, 1, none⟩) := hrO 13 (by decide)
                    have r14 : vs 14 = .slice none 0 0 := hrO 14 (by decide)
                    have r15 : vs 15 = .bool true := hrO 15 (by decide)
                    have r16 : vs 16 = .bool false := hrO 16 (by decide)
                    have r17 : vs 17 = .bool false := hrO 17 (by decide)
                    have r18 : vs 18 = .bool false := hrO 18 (by decide)
                    have r19 : vs 19 = .pointer (some ⟨pb, 0, none⟩) := hrO 19 (by decide)
                    have r21 : vs 21 = .agg #[.int .i64 p.hold, .slice none 0 0, .slice none 0 0] := hrO 21 (by decide)
                    have r23 : vs 23 = .bool true := hrO 23 (by decide)
                    have r24 : vs 24 = .bool false := hrO 24 (by decide)
                    have r25 : vs 25 = .bool false := hrO 25 (by decide)
                    have r26 : vs 26 = .bool false := hrO 26 (by decide)
                    have r27 : vs 27 = .pointer (some ⟨pb, 0, none⟩) := hrO 27 (by decide)
                    have r28 : vs 28 = .pointer (some ⟨wr.heap.size, 1, none⟩) := hrO 28 (by decide)
                    have r29 : vs 29 = .int .i64 q.p := hrO 29 (by decide)
                    have r30 : vs 30 = .bool (decide (q.p ∈ (flushP p).row)) := hrO 30 (by decide)
                    have r31 : vs 31 = .agg #[.int .i64 p.hold, .slice none 0 0, .slice none 0 0] := hrO 31 (by decide)
                    have r32 : vs 32 = .pointer (some ⟨wr.heap.size, 1, none⟩) := hrO 32 (by decide)
                    have r33 : vs 33 = .int .i64 q.p := hrO 33 (by decide)
                    have r34 : vs 34 = .bool (decide (q.p ∈ (flushP p).row)) := hrO 34 (by decide)
                    have r35 : vs 35 = .bool false := hrO 35 (by decide)
                    have r36 : vs 36 = .bool false := hrO 36 (by decide)
                    intro a hF'; clear hF hrO; have hF := hF'; clear hF'
                    simp only [List.take_succ_cons, List.take_zero, E.putsM, r0, r1, r2, r3, r4, r5, r6, r7, r8, r9, r10, r11, r13, r14, r15, r16, r17, r18, r19, r21, r23, r24, r25, r26, r27, r28, r29, r30, r31, r32, r33, r34, r35, r36] at hF
                    clear r0 r1 r2 r3 r4 r5 r6 r7 r8 r9 r10 r11 r13 r14 r15 r16 r17 r18 r19 r21 r23 r24 r25 r26 r27 r28 r29 r30 r31 r32 r33 r34 r35 r36
                    replace hP := hP.below hb188
                    replace p6 := p6.below hb188
                    replace hR := hR.below hb188
                    replace p8 := p8.below hb188
                    replace hC := hC.below hb188
                    have z189 : w179.heap.size ≤ w187.heap.size := hb188.size
                    clear hb188 hgO
                    simp only [List.drop_succ_cons, List.drop_zero]
                    refine wpList_nil ?_
                    replace hF := hF.sub (m' := [(210, .bool false), (7, .int .i64 (i : Int)), (1, .slice a3 ys.length c3), (5, .pointer (some ⟨pb, 0, none⟩)), (6, .pointer (some ⟨w8.heap.size, 0, none⟩))]) ⟨rfl, rfl, rfl, rfl, rfl, trivial⟩
                    refine E.then_norm (hK40 _ _ ?_)
                    refine E.condF rfl (hF.at 210 rfl) ?_
                    refine wp_skip ?_
                    refine E.in_norm ?_
                    refine E.then_norm (hK10 _ _ ?_)
                    refine wp_region_lit ?_  -- R7
                    refine E.val (d := 40) (v := .int .i64 (i : Int)) (w' := w187) rfl rfl rfl hF (by exact E.xMv rfl (hF.at 7 rfl)) ?_
                    clear hF a; intro a hF
                    refine E.val (d := 41) (v := .int .i64 ((i : Int) + 1)) (w' := w187) rfl rfl rfl hF (by have hr : IntKind.i64.wrap ((i : Int) + 1) = (i : Int) + 1 := E.wrapI (by omega) (by omega); have e40 : a.tmps[40]?.getD undef = .int .i64 (i : Int) := hF.at 40 rfl; simp [go_sem, e40, hr]) ?_
                    clear hF a; intro a hF
                    refine E.val (d := 7) (v := .int .i64 ((i : Int) + 1)) (w' := w187) rfl rfl rfl hF (by exact E.xAs rfl (hF.at 41 rfl)) ?_
                    clear hF a; intro a hF
                    refine wpList_nil ?_
                    refine E.then_norm ?_
                    replace hR := hR.mono (okr' := (fun x => (w15.heap.size ≤ x) ∧ (¬ M_hP x))) (okb' := (fun x => x < w.heap.size)) (fun x hx hl => by obtain ⟨hx0, hx1, hx2⟩ := hx; exact ⟨hx0, hx1⟩) (fun _ h _ => h)
                    exact ⟨_, by omega, i + 1, none, 0, 0, none, 0, 0, (flushP p), M_hP, W_hP, rfl, hF.sub (by exact ⟨rfl, rfl, rfl, rfl, trivial⟩), hC, by omega, hP, p6, hR, by omega, by omega, by omega, hge, nb13⟩
                  ·
                    refine E.condF rfl (((hF.at 156 rfl).trans (congrArg Value.bool hc163))) ?_
                    refine wp_skip ?_
                    refine E.in_norm ?_
                    refine E.then_norm (hK13 _ _ ?_)
                    refine wp_seq_k fun K41 hK41 => ?_
                    have hln := hR.lens.1; have hps1 : p.s ≤ (i : Int) + 1 := (by omega); have hpr1 : p.row.length ≤ i + 1 := (by omega)
                    have hk39 : (!((p.ms.length : Int) == (nl : Int))) = false := by rw [show nl = p.ms.length from hln]; simp
                    refine E.tab 37 [Sp.eq (.bool true), Sp.eq (.bool false), Sp.eq (.bool false), Sp.eq (.pointer (some ⟨pb, 0, none⟩)), Sp.eq (.int .i64 (p.ms.length : Int)), Sp.eq (.pointer (some ⟨w8.heap.size, 1, none⟩)), Sp.eq (.slice al nl cl), Sp.eq (.int .i64 (nl : Int)), Sp.eq (.bool (!((p.ms.length : Int) == (nl : Int)))), Sp.eq (.bool (!((p.ms.length : Int) == (nl : Int)))), Sp.eq (.bool (!((p.ms.length : Int) == (nl : Int)))), Sp.eq (.pointer (some ⟨pb, 0, none⟩)), Sp.of (fun v u => ∃ (aA : Option Addr) (cA : Nat) (qA : List (Value × Msg)), v = .slice aA qA.length cA ∧ MsgsAt (fun _ => True) (fun _ => True) u (.slice aA qA.length cA) qA ∧ qA.map Prod.snd = p.ms) (fun v u u' ⟨aA, cA, qA, e_186, hAm, hAq⟩ hb => ⟨aA, cA, qA, e_186, hAm.below hb, hAq⟩), Sp.eq (.pointer (some ⟨w8.heap.size, 1, none⟩)), Sp.eq (.slice al nl cl), Sp.eq (.bool true), Sp.eq (.bool false), Sp.eq (.bool false), Sp.eq (.bool false), Sp.eq (.pointer (some ⟨pb, 0, none⟩)), Sp.of (fun v u => ∃ (aX : Option Addr) (cX : Nat), v = .slice aX p.row.length cX ∧ IntsAt (fun _ => True) u (.slice aX p.row.length cX) p.row) (fun v u u' ⟨aX, cX, e_194, hX⟩ hb => ⟨aX, cX, e_194, hX.below hb⟩), Sp.eq (.agg #[.int .i64 p.hold, .slice al nl cl, .slice aw nw cw]), Sp.of (fun v u => ∃ (aY : Option Addr) (cY : Nat), v = .slice aY p.row.length cY ∧ IntsAt (fun _ => True) u (.slice aY p.row.length cY) p.row) (fun v u u' ⟨aY, cY, e_196, hY⟩ hb => ⟨aY, cY, e_196, hY.below hb⟩), Sp.eq (.bool true), Sp.eq (.bool false), Sp.eq (.bool false), Sp.eq (.bool false), Sp.eq (.pointer (some ⟨pb, 0, none⟩)), Sp.eq (.pointer (some ⟨wr.heap.size, 1, none⟩)), Sp.eq (.int .i64 q.p), Sp.eq (.bool (decide (q.p ∈ p.row))), Sp.eq (.agg #[.int .i64 p.hold, .slice al nl cl, .slice aw nw cw]), Sp.eq (.pointer (some ⟨wr.heap.size, 1, none⟩)), Sp.eq (.int .i64 q.p), Sp.eq (.bool (decide (q.p ∈ p.row))), Sp.eq (.bool false), Sp.eq (.bool false)] hF (fun _ _ _ _ _ h => h) (by kernel_rfl) (by kernel_rfl) ⟨?_, ?_, ?_, ?_, ?_, ?_, ?_, ?_, ?_, ?_, ?_, ?_, ?_, ?_, ?_, ?_, ?_, ?_, ?_, ?_, ?_, ?_, ?_, ?_, ?_, ?_, ?_, ?_, ?_, ?_, ?_, ?_, ?_, ?_, ?_, ?_, ?_, trivial⟩ ?_  -- R39
                    · intro ac gs u hbO hgO hO
                      refine opFree rfl ?_
                      exact relRun (v := .bool true) (w' := u) (by exact E.xMv rfl ((hO.inm 9 rfl (hF.ev 9 _ rfl)))) (okP hgO rfl)
                    · intro ac gs u hbO hgO hO
                      refine opFree rfl ?_
                      exact relRun (v := .bool false) (w' := u) (by have e174 : ac.tmps[174]?.getD undef = .bool true := (show ac.tmps[174]?.getD undef = .bool true from hO.tm 0 174 rfl rfl); simp [go_sem, e174]) (okP hgO rfl)
                    · intro ac gs u hbO hgO hO
                      refine opFree rfl ?_
                      exact relRun (v := .bool false) (w' := u) (by exact E.xMv rfl ((show ac.tmps[175]?.getD undef = .bool false from hO.tm 1 175 rfl rfl))) (okP hgO rfl)
                    · intro ac gs u hbO hgO hO
                      refine opWant 2 176 rfl rfl ((show ac.tmps[176]?.getD undef = .bool false from hO.tm 2 176 rfl rfl)) ?_
                      exact relRun (v := .pointer (some ⟨pb, 0, none⟩)) (w' := u) (by exact E.xMv rfl ((hO.inm 5 rfl (hF.ev 5 _ rfl)))) (okP hgO rfl)
                    · intro ac gs u hbO hgO hO
                      refine opWant 2 176 rfl rfl ((show ac.tmps[176]?.getD undef = .bool false from hO.tm 2 176 rfl rfl)) ?_
                      refine relCall (f := 18) (args := #[.pointer (some ⟨pb, 0, none⟩)]) (by have e177 : ac.tmps[177]?.getD undef = .pointer (some ⟨pb, 0, none⟩) := (show ac.tmps[177]?.getD undef = .pointer (some ⟨pb, 0, none⟩) from hO.tm 3 177 rfl rfl); simp [go_sem, e177]) ?_
                      refine Calls.mono (len_x (hP.below hbO)) ?_
                      rintro e u' ⟨rfl, rfl⟩
                      exact ⟨_, rfl, okP hgO rfl⟩
                    · intro ac gs u hbO hgO hO
                      refine opWant 2 176 rfl rfl ((show ac.tmps[176]?.getD undef = .bool false from hO.tm 2 176 rfl rfl)) ?_
                      exact relRun (v := .pointer (some ⟨w8.heap.size, 1, none⟩)) (w' := u) (by have e6 : ac.tmps[6]?.getD undef = .pointer (some ⟨w8.heap.size, 0, none⟩) := (hO.inm 6 rfl (hF.ev 6 _ rfl)); simp [go_sem, e6]) (okP hgO rfl)
                    · intro ac gs u hbO hgO hO
                      refine opWant 2 176 rfl rfl ((show ac.tmps[176]?.getD undef = .bool false from hO.tm 2 176 rfl rfl)) ?_
                      exact relRun (v := .slice al nl cl) (w' := u) (by have c1 : u.cell? ⟨w8.heap.size, 1, none⟩ = some (.slice al nl cl) := (p6.below hbO).cell 1; have e179 : ac.tmps[179]?.getD undef = .pointer (some ⟨w8.heap.size, 1, none⟩) := (show ac.tmps[179]?.getD undef = .pointer (some ⟨w8.heap.size, 1, none⟩) from hO.tm 5 179 rfl rfl); simp [go_sem, e179, c1]) (okP hgO rfl)
                    · intro ac gs u hbO hgO hO
                      refine opWant 2 176 rfl rfl ((show ac.tmps[176]?.getD undef = .bool false from hO.tm 2 176 rfl rfl)) ?_
                      exact relRun (v := .int .i64 (nl : Int)) (w' := u) (by have e180 : ac.tmps[180]?.getD undef = .slice al nl cl := (show ac.tmps[180]?.getD undef = .slice al nl cl from hO.tm 6 180 rfl rfl); simp [go_sem, e180]) (okP hgO rfl)
                    · intro ac gs u hbO hgO hO
                      refine opWant 2 176 rfl rfl ((show ac.tmps[176]?.getD undef = .bool false from hO.tm 2 176 rfl rfl)) ?_
                      exact relRun (v := .bool (!((p.ms.length : Int) == (nl : Int)))) (w' := u) (by have e178 : ac.tmps[178]?.getD undef = .int .i64 (p.ms.length : Int) := (show ac.tmps[178]?.getD undef = .int .i64 (p.ms.length : Int) from hO.tm 4 178 rfl rfl); have e181 : ac.tmps[181]?.getD undef = .int .i64 (nl : Int) := (show ac.tmps[181]?.getD undef = .int .i64 (nl : Int) from hO.tm 7 181 rfl rfl); simp [go_sem, e178, e181, bne]) (okP hgO rfl)
                    · intro ac gs u hbO hgO hO
                      refine opFree rfl ?_
                      exact relRun (v := .bool (!((p.ms.length : Int) == (nl : Int)))) (w' := u) (by have e176 : ac.tmps[176]?.getD undef = .bool false := (show ac.tmps[176]?.getD undef = .bool false from hO.tm 2 176 rfl rfl); have e182 : ac.tmps[182]?.getD undef = .bool (!((p.ms.length : Int) == (nl : Int))) := (show ac.tmps[182]?.getD undef = .bool (!((p.ms.length : Int) == (nl : Int))) from hO.tm 8 182 rfl rfl); simp [go_sem, e176, e182]) (okP hgO rfl)
                    · intro ac gs u hbO hgO hO
                      refine opFree rfl ?_
                      exact relRun (v := .bool (!((p.ms.length : Int) == (nl : Int)))) (w' := u) (by exact E.xMv rfl ((show ac.tmps[183]?.getD undef = .bool (!((p.ms.length : Int) == (nl : Int))) from hO.tm 9 183 rfl rfl))) (okP hgO rfl)
                    · intro ac gs u hbO hgO hO
                      refine opWant 10 184 rfl rfl ((((show ac.tmps[184]?.getD undef = .bool (!((p.ms.length : Int) == (nl : Int))) from hO.tm 10 184 rfl rfl)).trans (congrArg Value.bool hk39))) ?_
                      exact relRun (v := .pointer (some ⟨pb, 0, none⟩)) (w' := u) (by exact E.xMv rfl ((hO.inm 5 rfl (hF.ev 5 _ rfl)))) (okP hgO rfl)
                    · intro ac gs u hbO hgO hO
                      refine opWant 10 184 rfl rfl ((((show ac.tmps[184]?.getD undef = .bool (!((p.ms.length : Int) == (nl : Int))) from hO.tm 10 184 rfl rfl)).trans (congrArg Value.bool hk39))) ?_
                      refine relCall (f := 20) (args := #[.pointer (some ⟨pb, 0, none⟩)]) (by have e185 : ac.tmps[185]?.getD undef = .pointer (some ⟨pb, 0, none⟩) := (show ac.tmps[185]?.getD undef = .pointer (some ⟨pb, 0, none⟩) from hO.tm 11 185 rfl rfl); simp [go_sem, e185]) ?_
                      refine Calls.mono (all_x (hP.below hbO)) ?_
                      rintro e u' ⟨v, qA, rfl, hAq, hAm, hb190⟩
                      obtain ⟨aA, cA, rfl⟩ := hAm.shape
                      exact ⟨_, rfl, okB hgO hb190 ⟨_, _, _, rfl, hAm.mono (fun _ _ _ => trivial) (fun _ _ _ => trivial), hAq⟩⟩
                    · intro ac gs u hbO hgO hO
                      refine opWant 10 184 rfl rfl ((((show ac.tmps[184]?.getD undef = .bool (!((p.ms.length : Int) == (nl : Int))) from hO.tm 10 184 rfl rfl)).trans (congrArg Value.bool hk39))) ?_
                      exact relRun (v := .pointer (some ⟨w8.heap.size, 1, none⟩)) (w' := u) (by have e6 : ac.tmps[6]?.getD undef = .pointer (some ⟨w8.heap.size, 0, none⟩) := (hO.inm 6 rfl (hF.ev 6 _ rfl)); simp [go_sem, e6]) (okP hgO rfl)
                    · intro ac gs u hbO hgO hO
                      refine opWant 10 184 rfl rfl ((((show ac.tmps[184]?.getD undef = .bool (!((p.ms.length : Int) == (nl : Int))) from hO.tm 10 184 rfl rfl)).trans (congrArg Value.bool hk39))) ?_
                      exact relRun (v := .slice al nl cl) (w' := u) (by have c1 : u.cell? ⟨w8.heap.size, 1, none⟩ = some (.slice al nl cl) := (p6.below hbO).cell 1; have e187 : ac.tmps[187]?.getD undef = .pointer (some ⟨w8.heap.size, 1, none⟩) := (show ac.tmps[187]?.getD undef = .pointer (some ⟨w8.heap.size, 1, none⟩) from hO.tm 13 187 rfl rfl); simp [go_sem, e187, c1]) (okP hgO rfl)
                    · intro ac gs u hbO hgO hO
                      obtain ⟨aA, cA, qA, e_186, hAm, hAq⟩ := hO.tm 12 186 rfl rfl
                      refine opWant 10 184 rfl rfl ((((show ac.tmps[184]?.getD undef = .bool (!((p.ms.length : Int) == (nl : Int))) from hO.tm 10 184 rfl rfl)).trans (congrArg Value.bool hk39))) ?_
                      refine relCall (f := 22) (args := #[.slice aA qA.length cA, .slice al nl cl]) (by have e186 : ac.tmps[186]?.getD undef = .slice aA qA.length cA := e_186; have e188 : ac.tmps[188]?.getD undef = .slice al nl cl := (show ac.tmps[188]?.getD undef = .slice al nl cl from hO.tm 14 188 rfl rfl); simp [go_sem, e186, e188]) ?_
                      refine Calls.mono (same_ref hAm hAq (hR.below hbO)) ?_
                      rintro e u' ⟨rfl, hb191⟩
                      exact ⟨_, rfl, okB hgO hb191 rfl⟩
                    · intro ac gs u hbO hgO hO
                      refine opWant 10 184 rfl rfl ((((show ac.tmps[184]?.getD undef = .bool (!((p.ms.length : Int) == (nl : Int))) from hO.tm 10 184 rfl rfl)).trans (congrArg Value.bool hk39))) ?_
                      exact relRun (v := .bool false) (w' := u) (by have e189 : ac.tmps[189]?.getD undef = .bool true := (show ac.tmps[189]?.getD undef = .bool true from hO.tm 15 189 rfl rfl); simp [go_sem, e189]) (okP hgO rfl)
                    · intro ac gs u hbO hgO hO
                      refine opFree rfl ?_
                      exact relRun (v := .bool false) (w' := u) (by have e184 : ac.tmps[184]?.getD undef = .bool (!((p.ms.length : Int) == (nl : Int))) := (show ac.tmps[184]?.getD undef = .bool (!((p.ms.length : Int) == (nl : Int))) from hO.tm 10 184 rfl rfl); have e190 : ac.tmps[190]?.getD undef = .bool false := (show ac.tmps[190]?.getD undef = .bool false from hO.tm 16 190 rfl rfl); simp [go_sem, e184, e190, hk39]) (okP hgO rfl)
                    · intro ac gs u hbO hgO hO
                      refine opFree rfl ?_
                      exact relRun (v := .bool false) (w' := u) (by exact E.xMv rfl ((show ac.tmps[191]?.getD undef = .bool false from hO.tm 17 191 rfl rfl))) (okP hgO rfl)
                    · intro ac gs u hbO hgO hO
                      refine opWant 18 192 rfl rfl ((show ac.tmps[192]?.getD undef = .bool false from hO.tm 18 192 rfl rfl)) ?_
                      exact relRun (v := .pointer (some ⟨pb, 0, none⟩)) (w' := u) (by exact E.xMv rfl ((hO.inm 5 rfl (hF.ev 5 _ rfl)))) (okP hgO rfl)
                    · intro ac gs u hbO hgO hO
                      refine opWant 18 192 rfl rfl ((show ac.tmps[192]?.getD undef = .bool false from hO.tm 18 192 rfl rfl)) ?_
                      refine relCall (f := 11) (args := #[.pointer (some ⟨pb, 0, none⟩)]) (by have e193 : ac.tmps[193]?.getD undef = .pointer (some ⟨pb, 0, none⟩) := (show ac.tmps[193]?.getD undef = .pointer (some ⟨pb, 0, none⟩) from hO.tm 19 193 rfl rfl); simp [go_sem, e193]) ?_
                      refine Calls.mono (waiting_x (hP.below hbO) (by omega)) ?_
                      rintro e u' ⟨v, rfl, hX, hb192⟩
                      obtain ⟨aX, cX, rfl⟩ := hX.shape
                      exact ⟨_, rfl, okB hgO hb192 ⟨_, _, rfl, hX.mono (fun _ _ _ => trivial)⟩⟩
                    · intro ac gs u hbO hgO hO
                      refine opWant 18 192 rfl rfl ((show ac.tmps[192]?.getD undef = .bool false from hO.tm 18 192 rfl rfl)) ?_
                      exact relRun (v := .agg #[.int .i64 p.hold, .slice al nl cl, .slice aw nw cw]) (w' := u) (by exact xLoad rfl ((hO.inm 6 rfl (hF.ev 6 _ rfl))) (p6.below hbO) Try.underlying56 rfl (by kernel_rfl)) (okP hgO rfl)
                    · intro ac gs u hbO hgO hO
                      refine opWant 18 192 rfl rfl ((show ac.tmps[192]?.getD undef = .bool false from hO.tm 18 192 rfl rfl)) ?_
                      refine relCall (f := 30) (args := #[.agg #[.int .i64 p.hold, .slice al nl cl, .slice aw nw cw]]) (by have e195 : ac.tmps[195]?.getD undef = .agg #[.int .i64 p.hold, .slice al nl cl, .slice aw nw cw] := (show ac.tmps[195]?.getD undef = .agg #[.int .i64 p.hold, .slice al nl cl, .slice aw nw cw] from hO.tm 21 195 rfl rfl); simp [go_sem, e195]) ?_
                      refine Calls.mono (waiting_p (hR.below hbO) _ (by omega)) ?_
                      rintro e u' ⟨v, rfl, hY, hb193⟩
                      obtain ⟨aY, cY, rfl⟩ := hY.shape
                      exact ⟨_, rfl, okB hgO hb193 ⟨_, _, rfl, hY.mono (fun _ _ _ => trivial)⟩⟩
                    · intro ac gs u hbO hgO hO
                      obtain ⟨aX, cX, e_194, hX⟩ := hO.tm 20 194 rfl rfl
                      obtain ⟨aY, cY, e_196, hY⟩ := hO.tm 22 196 rfl rfl
                      refine opWant 18 192 rfl rfl ((show ac.tmps[192]?.getD undef = .bool false from hO.tm 18 192 rfl rfl)) ?_
                      refine relCall (f := 23) (args := #[.slice aX p.row.length cX, .slice aY p.row.length cY]) (by have e194 : ac.tmps[194]?.getD undef = .slice aX p.row.length cX := e_194; have e196 : ac.tmps[196]?.getD undef = .slice aY p.row.length cY := e_196; simp [go_sem, e194, e196]) ?_
                      refine Calls.mono (ints_same hX hY) ?_
                      rintro e u' ⟨rfl, hb194⟩
                      exact ⟨_, rfl, okB hgO hb194 rfl⟩
                    · intro ac gs u hbO hgO hO
                      refine opWant 18 192 rfl rfl ((show ac.tmps[192]?.getD undef = .bool false from hO.tm 18 192 rfl rfl)) ?_
                      exact relRun (v := .bool false) (w' := u) (by have e197 : ac.tmps[197]?.getD undef = .bool true := (show ac.tmps[197]?.getD undef = .bool true from hO.tm 23 197 rfl rfl); simp [go_sem, e197]) (okP hgO rfl)
                    · intro ac gs u hbO hgO hO
                      refine opFree rfl ?_
                      exact relRun (v := .bool false) (w' := u) (by have e192 : ac.tmps[192]?.getD undef = .bool false := (show ac.tmps[192]?.getD undef = .bool false from hO.tm 18 192 rfl rfl); have e198 : ac.tmps[198]?.getD undef = .bool false := (show ac.tmps[198]?.getD undef = .bool false from hO.tm 24 198 rfl rfl); simp [go_sem, e192, e198]) (okP hgO rfl)
                    · intro ac gs u hbO hgO hO
                      refine opFree rfl ?_
                      exact relRun (v := .bool false) (w' := u) (by exact E.xMv rfl ((show ac.tmps[199]?.getD undef = .bool false from hO.tm 25 199 rfl rfl))) (okP hgO rfl)
                    · intro ac gs u hbO hgO hO
                      refine opWant 26 200 rfl rfl ((show ac.tmps[200]?.getD undef = .bool false from hO.tm 26 200 rfl rfl)) ?_
                      exact relRun (v := .pointer (some ⟨pb, 0, none⟩)) (w' := u) (by exact E.xMv rfl ((hO.inm 5 rfl (hF.ev 5 _ rfl)))) (okP hgO rfl)
                    · intro ac gs u hbO hgO hO
                      refine opWant 26 200 rfl rfl ((show ac.tmps[200]?.getD undef = .bool false from hO.tm 26 200 rfl rfl)) ?_
                      exact relRun (v := .pointer (some ⟨wr.heap.size, 1, none⟩)) (w' := u) (by have e8 : ac.tmps[8]?.getD undef = .pointer (some ⟨wr.heap.size, 0, none⟩) := (hO.inm 8 rfl (hF.ev 8 _ rfl)); simp [go_sem, e8]) (okP hgO rfl)
                    · intro ac gs u hbO hgO hO
                      refine opWant 26 200 rfl rfl ((show ac.tmps[200]?.getD undef = .bool false from hO.tm 26 200 rfl rfl)) ?_
                      exact relRun (v := .int .i64 q.p) (w' := u) (by have c1 : u.cell? ⟨wr.heap.size, 1, none⟩ = some (.int .i64 q.p) := (p8.below hbO).cell 1; have e202 : ac.tmps[202]?.getD undef = .pointer (some ⟨wr.heap.size, 1, none⟩) := (show ac.tmps[202]?.getD undef = .pointer (some ⟨wr.heap.size, 1, none⟩) from hO.tm 28 202 rfl rfl); simp [go_sem, e202, c1]) (okP hgO rfl)
                    · intro ac gs u hbO hgO hO
                      refine opWant 26 200 rfl rfl ((show ac.tmps[200]?.getD undef = .bool false from hO.tm 26 200 rfl rfl)) ?_
                      refine relCall (f := 19) (args := #[.pointer (some ⟨pb, 0, none⟩), .int .i64 q.p]) (by have e201 : ac.tmps[201]?.getD undef = .pointer (some ⟨pb, 0, none⟩) := (show ac.tmps[201]?.getD undef = .pointer (some ⟨pb, 0, none⟩) from hO.tm 27 201 rfl rfl); have e203 : ac.tmps[203]?.getD undef = .int .i64 q.p := (show ac.tmps[203]?.getD undef = .int .i64 q.p from hO.tm 29 203 rfl rfl); simp [go_sem, e201, e203]) ?_
                      refine Calls.mono (waits_x (hP.below hbO) _) ?_
                      rintro e u' ⟨rfl, rfl⟩
                      exact ⟨_, rfl, okP hgO rfl⟩
                    · intro ac gs u hbO hgO hO
                      refine opWant 26 200 rfl rfl ((show ac.tmps[200]?.getD undef = .bool false from hO.tm 26 200 rfl rfl)) ?_
                      exact relRun (v := .agg #[.int .i64 p.hold, .slice al nl cl, .slice aw nw cw]) (w' := u) (by exact xLoad rfl ((hO.inm 6 rfl (hF.ev 6 _ rfl))) (p6.below hbO) Try.underlying56 rfl (by kernel_rfl)) (okP hgO rfl)
                    · intro ac gs u hbO hgO hO
                      refine opWant 26 200 rfl rfl ((show ac.tmps[200]?.getD undef = .bool false from hO.tm 26 200 rfl rfl)) ?_
                      exact relRun (v := .pointer (some ⟨wr.heap.size, 1, none⟩)) (w' := u) (by have e8 : ac.tmps[8]?.getD undef = .pointer (some ⟨wr.heap.size, 0, none⟩) := (hO.inm 8 rfl (hF.ev 8 _ rfl)); simp [go_sem, e8]) (okP hgO rfl)
                    · intro ac gs u hbO hgO hO
                      refine opWant 26 200 rfl rfl ((show ac.tmps[200]?.getD undef = .bool false from hO.tm 26 200 rfl rfl)) ?_
                      exact relRun (v := .int .i64 q.p) (w' := u) (by have c1 : u.cell? ⟨wr.heap.size, 1, none⟩ = some (.int .i64 q.p) := (p8.below hbO).cell 1; have e206 : ac.tmps[206]?.getD undef = .pointer (some ⟨wr.heap.size, 1, none⟩) := (show ac.tmps[206]?.getD undef = .pointer (some ⟨wr.heap.size, 1, none⟩) from hO.tm 32 206 rfl rfl); simp [go_sem, e206, c1]) (okP hgO rfl)
                    · intro ac gs u hbO hgO hO
                      refine opWant 26 200 rfl rfl ((show ac.tmps[200]?.getD undef = .bool false from hO.tm 26 200 rfl rfl)) ?_
                      refine relCall (f := 31) (args := #[.agg #[.int .i64 p.hold, .slice al nl cl, .slice aw nw cw], .int .i64 q.p]) (by have e205 : ac.tmps[205]?.getD undef = .agg #[.int .i64 p.hold, .slice al nl cl, .slice aw nw cw] := (show ac.tmps[205]?.getD undef = .agg #[.int .i64 p.hold, .slice al nl cl, .slice aw nw cw] from hO.tm 31 205 rfl rfl); have e207 : ac.tmps[207]?.getD undef = .int .i64 q.p := (show ac.tmps[207]?.getD undef = .int .i64 q.p from hO.tm 33 207 rfl rfl); simp [go_sem, e205, e207]) ?_
                      refine Calls.mono (waits_p (hR.below hbO) _ _) ?_
                      rintro e u' ⟨rfl, hb195⟩
                      exact ⟨_, rfl, okB hgO hb195 rfl⟩
                    · intro ac gs u hbO hgO hO
                      refine opWant 26 200 rfl rfl ((show ac.tmps[200]?.getD undef = .bool false from hO.tm 26 200 rfl rfl)) ?_
                      exact relRun (v := .bool false) (w' := u) (by have e204 : ac.tmps[204]?.getD undef = .bool (decide (q.p ∈ p.row)) := (show ac.tmps[204]?.getD undef = .bool (decide (q.p ∈ p.row)) from hO.tm 30 204 rfl rfl); have e208 : ac.tmps[208]?.getD undef = .bool (decide (q.p ∈ p.row)) := (show ac.tmps[208]?.getD undef = .bool (decide (q.p ∈ p.row)) from hO.tm 34 208 rfl rfl); simp [go_sem, e204, e208]) (okP hgO rfl)
                    · intro ac gs u hbO hgO hO
                      refine opFree rfl ?_
                      exact relRun (v := .bool false) (w' := u) (by have e200 : ac.tmps[200]?.getD undef = .bool false := (show ac.tmps[200]?.getD undef = .bool false from hO.tm 26 200 rfl rfl); have e209 : ac.tmps[209]?.getD undef = .bool false := (show ac.tmps[209]?.getD undef = .bool false from hO.tm 35 209 rfl rfl); simp [go_sem, e200, e209]) (okP hgO rfl)
                    intro vs gs w196 hb197 hgO hrO
                    have r0 : vs 0 = .bool true := hrO 0 (by decide)
                    have r1 : vs 1 = .bool false := hrO 1 (by decide)
                    have r2 : vs 2 = .bool false := hrO 2 (by decide)
                    have r3 : vs 3 = .pointer (some ⟨pb, 0, none⟩) := hrO 3 (by decide)
                    have r4 : vs 4 = .int .i64 (p.ms.length : Int) := hrO 4 (by decide)
                    have r5 : vs 5 = .pointer (some ⟨w8.heap.size, 1, none⟩) := hrO 5 (by decide)
                    have r6 : vs 6 = .slice al nl cl := hrO 6 (by decide)
                    have r7 : vs 7 = .int .i64 (nl : Int) := hrO 7 (by decide)
                    have r8 : vs 8 = .bool (!((p.ms.length : Int) == (nl : Int))) := hrO 8 (by decide)
                    have r9 : vs 9 = .bool (!((p.ms.length : Int) == (nl : Int))) := hrO 9 (by decide)
                    have r10 : vs 10 = .bool (!((p.ms.length : Int) == (nl : Int))) := hrO 10 (by decide)
                    have r11 : vs 11 = .pointer (some ⟨pb, 0, none⟩) := hrO 11 (by decide)
                    have r13 : vs 13 = .pointer (some ⟨w8.heap.size, 1, none⟩) := hrO 13 (by decide)
                    have r14 : vs 14 = .slice al nl cl := hrO 14 (by decide)
                    have r15 : vs 15 = .bool true := hrO 15 (by decide)
                    have r16 : vs 16 = .bool false := hrO 16 (by decide)
                    have r17 : vs 17 = .bool false := hrO 17 (by decide)
                    have r18 : vs 18 = .bool false := hrO 18 (by decide)
                    have r19 : vs 19 = .pointer (some ⟨pb, 0, none⟩) := hrO 19 (by decide)
                    have r21 : vs 21 = .agg #[.int .i64 p.hold, .slice al nl cl, .slice aw nw cw] := hrO 21 (by decide)
                    have r23 : vs 23 = .bool true := hrO 23 (by decide)
                    have r24 : vs 24 = .bool false := hrO 24 (by decide)
                    have r25 : vs 25 = .bool false := hrO 25 (by decide)
                    have r26 : vs 26 = .bool false := hrO 26 (by decide)
                    have r27 : vs 27 = .pointer (some ⟨pb, 0, none⟩) := hrO 27 (by decide)
                    have r28 : vs 28 = .pointer (some ⟨wr.heap.size, 1, none⟩) := hrO 28 (by decide)
                    have r29 : vs 29 = .int .i64 q.p := hrO 29 (by decide)
                    have r30 : vs 30 = .bool (decide (q.p ∈ p.row)) := hrO 30 (by decide)
                    have r31 : vs 31 = .agg #[.int .i64 p.hold, .slice al nl cl, .slice aw nw cw] := hrO 31 (by decide)
                    have r32 : vs 32 = .pointer (some ⟨wr.heap.size, 1, none⟩) := hrO 32 (by decide)
                    have r33 : vs 33 = .int .i64 q.p := hrO 33 (by decide)
                    have r34 : vs 34 = .bool (decide (q.p ∈ p.row)) := hrO 34 (by decide)
                    have r35 : vs 35 = .bool false := hrO 35 (by decide)
                    have r36 : vs 36 = .bool false := hrO 36 (by decide)
                    intro a hF'; clear hF hrO; have hF := hF'; clear hF'
                    simp only [List.take_succ_cons, List.take_zero, E.putsM, r0, r1, r2, r3, r4, r5, r6, r7, r8, r9, r10, r11, r13, r14, r15, r16, r17, r18, r19, r21, r23, r24, r25, r26, r27, r28, r29, r30, r31, r32, r33, r34, r35, r36] at hF
                    clear r0 r1 r2 r3 r4 r5 r6 r7 r8 r9 r10 r11 r13 r14 r15 r16 r17 r18 r19 r21 r23 r24 r25 r26 r27 r28 r29 r30 r31 r32 r33 r34 r35 r36
                    replace hP := hP.below hb197
                    replace p6 := p6.below hb197
                    replace hR := hR.below hb197
                    replace p8 := p8.below hb197
                    replace hC := hC.below hb197
                    have z198 : w28.heap.size ≤ w196.heap.size := hb197.size
                    clear hb197 hgO
                    simp only [List.drop_succ_cons, List.drop_zero]
                    refine wpList_nil ?_
                    replace hF := hF.sub (m' := [(210, .bool false), (7, .int .i64 (i : Int)), (1, .slice a3 ys.length c3), (5, .pointer (some ⟨pb, 0, none⟩)), (6, .pointer (some ⟨w8.heap.size, 0, none⟩))]) ⟨rfl, rfl, rfl, rfl, rfl, trivial⟩
                    refine E.then_norm (hK41 _ _ ?_)
                    refine E.condF rfl (hF.at 210 rfl) ?_
                    refine wp_skip ?_
                    refine E.in_norm ?_
                    refine E.then_norm (hK10 _ _ ?_)
                    refine wp_region_lit ?_  -- R7
                    refine E.val (d := 40) (v := .int .i64 (i : Int)) (w' := w196) rfl rfl rfl hF (by exact E.xMv rfl (hF.at 7 rfl)) ?_
                    clear hF a; intro a hF
                    refine E.val (d := 41) (v := .int .i64 ((i : Int) + 1)) (w' := w196) rfl rfl rfl hF (by have hr : IntKind.i64.wrap ((i : Int) + 1) = (i : Int) + 1 := E.wrapI (by omega) (by omega); have e40 : a.tmps[40]?.getD undef = .int .i64 (i : Int) := hF.at 40 rfl; simp [go_sem, e40, hr]) ?_
                    clear hF a; intro a hF
                    refine E.val (d := 7) (v := .int .i64 ((i : Int) + 1)) (w' := w196) rfl rfl rfl hF (by exact E.xAs rfl (hF.at 41 rfl)) ?_
                    clear hF a; intro a hF
                    refine wpList_nil ?_
                    refine E.then_norm ?_
                    replace hR := hR.mono (okr' := (fun x => (w15.heap.size ≤ x) ∧ (¬ M_hP x))) (okb' := (fun x => x < w.heap.size)) (fun x hx hl => by obtain ⟨hx0, hx1, hx2⟩ := hx; exact ⟨hx0, hx1⟩) (fun _ h _ => h)
                    exact ⟨_, by omega, i + 1, al, nl, cl, aw, nw, cw, p, M_hP, W_hP, rfl, hF.sub (by exact ⟨rfl, rfl, rfl, rfl, trivial⟩), hC, by omega, hP, p6, hR, by omega, by omega, by omega, hge, nb13⟩
                ·
                  exact absurd (show (K == 8) = true by simp; have hq1 := hc106; have hq2 := hc134; simp at hq1 hq2; omega) (by rw [hc162]; exact Bool.false_ne_true)
  ·
    have hie := of_decide_eq_false hc19
    refine E.condF rfl (((hF.at 39 rfl).trans (congrArg Value.bool hc19))) ?_
    refine wp_exit ?_
    refine E.then_exit ?_
    refine E.then_exit ?_
    refine E.exit_in ?_
    replace hF := hF.sub (m' := []) trivial
    refine E.then_norm (hK6 _ _ ?_)
    refine wp_seq_k fun K42 hK42 => ?_
    refine wp_region_lit ?_  -- R41
    refine E.val (d := 4) (v := .bool true) (w' := wr) rfl rfl rfl hF (by exact E.xAsC rfl) ?_
    clear hF a; intro a hF
    refine wpList_nil ?_
    refine E.then_norm (hK42 _ _ ?_)
    refine wp_ret ?_
    refine E.ret (v := .bool true) hF (by have e4 : a.tmps[4]?.getD undef = .bool true := hF.at 4 rfl; simp [results, Try.results6, go_sem, e4]) ?_
    exact ⟨rfl, E.below_of hC⟩
  -- KLAW
end Go.Proofs.Ytnlmkllhmldgiaa.Rq
