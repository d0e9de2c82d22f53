/- DERIVED. The walk over the statement LaneRow: messages come out by their lanes, and of one lane as they were put. -/
import Derived.Test.YtbbhhjoohfkanaaLaneI
namespace Go.Proofs.Ytbbhhjoohfkanaa.La
set_option linter.unusedVariables false
set_option linter.unusedSimpArgs false
open Go.RowKit Go.Proofs.Ytbbhhjoohfkanaa.K Go.Proofs.Ytbbhhjoohfkanaa.Sp Go.Proofs.Ytbbhhjoohfkanaa.Lb Go.Proofs.Ytbbhhjoohfkanaa.So
/-- The last number told of a lane. -/
def lastOf (l0 l1 l2 : Int) (k : Int) : Int := if k = 0 then l0 else if k = 1 then l1 else l2
/-- Ahead of step k: I were put, O taken; those of a lane stand as they were put, behind the last one told. -/
structure RowInv (ms : List Msg) (I O k : Nat) (l0 l1 l2 : Int) : Prop where
  le : O ≤ I
  most : I ≤ k
  len : ms.length = I - O
  lane : ∀ m ∈ ms, 0 ≤ m.lane ∧ m.lane < 3
  seq : ∀ m ∈ ms, lastOf l0 l1 l2 m.lane < m.seq ∧ m.seq ≤ I
  row : ∀ j, (ofM j ms).Pairwise (fun a b => a.seq < b.seq)
  zero : 0 ≤ l0 ∧ 0 ≤ l1 ∧ 0 ≤ l2
  top : l0 ≤ I ∧ l1 ≤ I ∧ l2 ≤ I
theorem RowInv.start : RowInv [] 0 0 0 0 0 0 := ⟨by omega, by omega, rfl, by simp, by simp, fun j => List.Pairwise.nil, by omega, by omega⟩
theorem RowInv.next {ms : List Msg} {I O k : Nat} {l0 l1 l2 : Int} (h : RowInv ms I O k l0 l1 l2) : RowInv ms I O (k + 1) l0 l1 l2 := ⟨h.le, by have := h.most; omega, h.len, h.lane, h.seq, h.row, h.zero, h.top⟩
theorem RowInv.put {ms : List Msg} {I O k : Nat} {l0 l1 l2 : Int} (h : RowInv ms I O k l0 l1 l2) {a : Int} (ha : 0 ≤ a ∧ a < 3) : RowInv (ms ++ [⟨[], a, 0, 0, (I : Int) + 1⟩]) (I + 1) O (k + 1) l0 l1 l2 := by
  have hl := h.len
  have hle := h.le
  have htop := h.top
  refine ⟨by omega, by have := h.most; omega, by simp; omega, fun m hm => ?_, fun m hm => ?_, fun j => ?_, h.zero, by omega⟩
  · rcases List.mem_append.1 hm with h1 | h1
    · exact h.lane m h1
    · simp at h1; subst h1; exact ha
  · rcases List.mem_append.1 hm with h1 | h1
    · have := h.seq m h1; omega
    · simp at h1; subst h1; simp only; unfold lastOf; split <;> (try split) <;> omega
  · unfold ofM
    rw [List.filter_append]
    refine List.pairwise_append.2 ⟨h.row j, ?_, fun x hx y hy => ?_⟩
    · by_cases hj : a = j <;> simp [hj]
    · have hx' := h.seq x (List.mem_filter.1 hx).1
      by_cases hj : a = j
      · simp [hj] at hy; subst hy; simp only; omega
      · simp [hj] at hy
theorem sort_cons {ms r : List Msg} {m : Msg} (h : sortM ms = m :: r) (j : Int) : ofM j ms = (if m.lane = j then m :: ofM j r else ofM j r) := by
  rw [← ofM_sort, h]
  unfold ofM
  rw [List.filter_cons]
  by_cases hj : m.lane = j <;> simp [hj]
theorem sort_cons_mem {ms r : List Msg} {m : Msg} (h : sortM ms = m :: r) (q : Msg) : q ∈ ms ↔ q = m ∨ q ∈ r := by
  rw [← sortL_mem (key := lane1) ms q]
  show q ∈ sortM ms ↔ _
  rw [h]; simp
theorem sort_cons_le {ms r : List Msg} {m : Msg} (h : sortM ms = m :: r) : ∀ q ∈ ms, m.lane ≤ q.lane := fun q hq => by
  have hs : Srt lane1 (m :: r) := h ▸ sortL_srt ms
  rcases (sort_cons_mem h q).1 hq with rfl | hq
  · exact Int.le_refl _
  · exact (List.pairwise_cons.1 hs).1 q hq
theorem RowInv.take {ms r : List Msg} {m : Msg} {I O k : Nat} {l0 l1 l2 : Int} (h : RowInv ms I O k l0 l1 l2) (hs : sortM ms = m :: r) :
    (∀ q ∈ ms, m.lane ≤ q.lane ∧ (q.lane = m.lane → m.seq ≤ q.seq)) ∧ (0 ≤ m.lane ∧ m.lane < 3) ∧ lastOf l0 l1 l2 m.lane < m.seq ∧ RowInv r I (O + 1) (k + 1) (if m.lane = 0 then m.seq else l0) (if m.lane = 1 then m.seq else l1) (if m.lane = 2 then m.seq else l2) := by
  have hl := h.len
  have hle := h.le
  have hlen : ms.length = r.length + 1 := by have := sortL_len (key := lane1) ms; have h2 : (sortM ms).length = r.length + 1 := by rw [hs]; rfl
                                             unfold sortM at h2; omega
  have hm : m ∈ ms := (sort_cons_mem hs m).2 (.inl rfl)
  have hml := h.lane m hm
  have hms := h.seq m hm
  have hrow : ∀ q ∈ r, q.lane = m.lane → m.seq < q.seq := fun q hq he => by
    have h1 := h.row m.lane
    rw [sort_cons hs, if_pos rfl] at h1
    exact (List.pairwise_cons.1 h1).1 q (by unfold ofM; simp [hq, he])
  refine ⟨fun q hq => ⟨sort_cons_le hs q hq, fun he => ?_⟩, hml, hms.1, ⟨by omega, by have := h.most; omega, by omega, fun q hq => h.lane q ((sort_cons_mem hs q).2 (.inr hq)), fun q hq => ?_, fun j => ?_, ?_, ?_⟩⟩
  · rcases (sort_cons_mem hs q).1 hq with rfl | hq
    · exact Int.le_refl _
    · exact Int.le_of_lt (hrow q hq he)
  · have hq1 := h.seq q ((sort_cons_mem hs q).2 (.inr hq))
    have hq2 := h.lane q ((sort_cons_mem hs q).2 (.inr hq))
    refine ⟨?_, hq1.2⟩
    by_cases he : q.lane = m.lane
    · have := hrow q hq he
      rw [he]
      unfold lastOf
      have : m.lane = 0 ∨ m.lane = 1 ∨ m.lane = 2 := by omega
      rcases this with e | e | e <;> simp [e] <;> omega
    · have h3 := hq1.1
      unfold lastOf at h3 ⊢
      have : q.lane = 0 ∨ q.lane = 1 ∨ q.lane = 2 := by omega
      rcases this with e | e | e <;> simp [e] at h3 he ⊢ <;> (rw [if_neg (by omega)]; exact h3)
  · have h1 := h.row j
    rw [sort_cons hs] at h1
    split at h1
    · exact (List.pairwise_cons.1 h1).2
    · exact h1
  · have := h.zero
    have h0 := hms.1
    unfold lastOf at h0
    refine ⟨?_, ?_, ?_⟩ <;> split <;> omega
  · have := h.top
    refine ⟨?_, ?_, ?_⟩ <;> split <;> omega
set_option maxHeartbeats 4000000 in
set_option maxRecDepth 100000 in
theorem row_c {w : World} {vs : Value} (lanes places : Int) {qs : List (Value × St)} (hs : StepsAt w vs qs) : Calls Try.prog 3 #[.int .i64 lanes, .int .i64 places, vs] w (LivesPost w) := by
  obtain ⟨a2, c2, rfl⟩ := hs.shape
  replace hs := hid hs
  go_enter Try.func3, Try.ntmps3
  go_wp2_with (first | (go_at_call 11; (with_reducible refine (lives_c _).mono ?_); rintro e w1 ⟨rfl, hb1⟩; replace hb1 := hid hb1) | (go_at_call 12; (with_reducible refine (new_c _ lanes places).mono ?_); rintro e w2 ⟨lb, rfl, hL, hb⟩; have hL2 := hid hL; have hW2 := hid (show Wd w.heap.size w w2 (fun b => w1.heap.size ≤ b ∧ b < w2.heap.size) from ⟨Below.next hb1.out hb hb1.out.size, fun b h => Nat.le_trans hb1.out.size h.1, fun b h => h.2, Nat.le_trans hb1.out.size hb.size⟩); clear hL hb; generalize (fun b => w1.heap.size ≤ b ∧ b < w2.heap.size) = M2 at hL2 hW2) | (go_at_call 13; (with_reducible refine (early_c _ hs.out).mono ?_); rintro e w' ⟨v', rfl, hv', rfl⟩; have hl80 := hid (show (qs.take 80).length ≤ 80 by simp; omega); generalize qs.take 80 = ys at hv' hl80; obtain ⟨a3, c3, rfl⟩ := hv'.shape; replace hv' := hid hv'))
  have hbA := (Below.refl w2.heap.size w2).alloc (Nat.le_refl _) (.cells #[.int .i64 0, .int .i64 0, .int .i64 0] 26)
  have hpA := pts.newA w2 #[.int .i64 0, .int .i64 0, .int .i64 0] 26
  have hLA := hL2.out.below hbA
  have hWA := hW2.out.next hbA
  have hnA : ¬ M2 w2.heap.size := fun h => by have := hL2.out.lt _ h; omega
  have hgA := hW2.out.le
  have hl80 := hl80.out
  clear hL2 hW2 hbA hb1 hs
  generalize w2.alloc (.cells #[.int .i64 0, .int .i64 0, .int .i64 0] 26) = W at hpA hLA hWA ⊢
  generalize w2.heap.size = ab at hpA hnA hgA ⊢
  go_loopg [8, 9, 11] ys.length (fun g vi vo i wr => ∃ (k I O : Nat) (ms : List Msg) (M : Nat → Prop) (l0 l1 l2 : Int), k ≤ ys.length ∧ g = ys.length - k ∧ i = .int .i64 k ∧ vi = .int .i64 I ∧ vo = .int .i64 O ∧ LanesM wr M lb (lnT lanes) (plT places) ms ∧ Wd w.heap.size w wr M ∧ pts wr ab [.int .i64 l0, .int .i64 l1, .int .i64 l2] 26 ∧ ¬ M ab ∧ w.heap.size ≤ ab ∧ RowInv ms I O k l0 l1 l2)
  case atStart => exact ⟨0, 0, 0, [], M2, 0, 0, 0, Nat.zero_le _, rfl, rfl, rfl, rfl, hLA, hWA, hpA, hnA, hgA, RowInv.start⟩
  case round =>
    clear hLA hWA hpA hnA
    obtain ⟨k, I, O, ms, M, l0, l1, l2, hk, hgk, rfl, rfl, rfl, hL, hW, hp, hnM, hab, hI⟩ := hrel
    by_cases hlt : k < ys.length
    · obtain ⟨-, hcl, hcm, -⟩ := (RecsAt.below goodS_below hv'.out hW.below).get
      obtain ⟨g, o, a, c, rfl, hg, hwi, d0, d1, d2, d3, d4, d5, d6⟩ := StepsAt.at_ (RecsAt.below goodS_below hv'.out hW.below) hlt
      generalize ys[k].2 = q at hwi d0 d1 d2 d3 d4 d5 d6
      have hbA := (Below.refl wr.heap.size wr).alloc (Nat.le_refl _) (.cells #[.int .i64 q.k, .int .i64 q.n, .slice a q.m.words.length c, .int .i64 q.m.lane, .int .i64 q.m.stamp, .int .i64 q.m.late, .int .i64 q.m.seq] 32)
      have hsA := hid (pts.newA wr #[.int .i64 q.k, .int .i64 q.n, .slice a q.m.words.length c, .int .i64 q.m.lane, .int .i64 q.m.stamp, .int .i64 q.m.late, .int .i64 q.m.seq] 32)
      have hLA := hid (hL.below hbA)
      have hWA := hid (hW.next hbA)
      have hpA := hid (hp.below hbA)
      have hkd := kindT_lt q.k
      have hI80 : I ≤ 80 := by have := hI.most; omega
      have hO80 : O ≤ 80 := by have := hI.le; omega
      have hk80 : k ≤ 80 := by omega
      replace hI := hid hI
      replace hwi := hid hwi
      clear hL hW hp hbA
      go_upto_if 39 with (first | (go_at_call 14; (with_reducible refine (kind_c _ _ _ _ _).mono ?_); rintro e w3 ⟨rfl, hb3⟩; have hL3 := hid (hLA.out.below hb3); have hW3 := hid (hWA.out.next hb3); have hp3 := hid (hpA.out.below hb3); have hs3 := hid (hsA.out.below hb3); clear hb3 hLA hWA hpA hsA))
      clear d0 d1 d2 d3 d4 d5 d6
      have s3 := hs3.out.cell 3
      have s3l := hs3.out.lt
      simp only [List.getElem?_cons_zero, List.getElem?_cons_succ] at s3
      by_cases h4 : kindT q.k < 4
      · rw [decide_eq_true h4]
        clear h4 hkd
        go_upto_region 13 with fail
        obtain ⟨A, hA, hA1⟩ : ∃ A, wrap64 ((IntKind.u64.wrap q.m.lane).tmod 3) = A ∧ 0 ≤ A ∧ A < 3 := ⟨_, rfl, mod3 _⟩
        rw [hA]
        clear hA
        have hbA := (Below.refl w3.heap.size w3).alloc (Nat.le_refl _) (.cells #[.slice none 0 0, .int .i64 A, .int .i64 0, .int .i64 0, .int .i64 ((I : Int) + 1)] 30)
        have hmA := hid (pts.newA w3 #[.slice none 0 0, .int .i64 A, .int .i64 0, .int .i64 0, .int .i64 ((I : Int) + 1)] 30)
        have hLB := hid (hL3.out.below hbA)
        have hWB := hid (hW3.out.next hbA)
        have hpB := hid (hp3.out.below hbA)
        have hpc := put_cases hL3.out.inv ⟨[], A, 0, 0, (I : Int) + 1⟩
        have hRm := hid (fun (w : World) (h : LanesM w M lb (lnT lanes) (plT places) ms) => room_c h A)
        have hPt := hid (fun (w : World) (h : LanesM w M lb (lnT lanes) (plT places) ms) => putLit h A 0 0 ((I : Int) + 1))
        unfold PutPost at hPt
        simp only at hpc
        have hAs := hid hA1
        generalize roomT (lnT lanes) (plT places) ms A = R at hRm hpc
        generalize putE (lnT lanes) (plT places) ms ⟨[], A, 0, 0, (I : Int) + 1⟩ = E at hPt hpc
        generalize putL (lnT lanes) (plT places) ms ⟨[], A, 0, 0, (I : Int) + 1⟩ = ms' at hPt hpc
        clear hbA hL3 hW3 hp3 hs3 s3 s3l
        rcases hpc with ⟨hR, rfl, rfl⟩ | ⟨rfl, hE, rfl⟩
        · go_wp2_with (first | (go_at_call 15; (with_reducible refine (hRm.out _ hLB.out).mono ?_); rintro e w4 ⟨rfl, hb4⟩; have hm4 := hmA.out.below hb4; have y0 := hm4.cell 0; have y1 := hm4.cell 1; have y2 := hm4.cell 2; have y3 := hm4.cell 3; have y4 := hm4.cell 4; have yl := hm4.lt; simp only [List.getElem?_cons_zero, List.getElem?_cons_succ] at y0 y1 y2 y3 y4; have hL4 := hid (hLB.out.below hb4); have hW4 := hid (hWB.out.next hb4); have hp4 := hid (hpB.out.below hb4); clear hm4 hb4) | (go_at_call 16; (with_reducible refine (hPt.out _ hL4.out).mono ?_); rintro e w5 ⟨rfl, hL5, hC5⟩; have hW5 := hid (hW4.out.chg hC5); have hp5 := hid (hp4.out.chg hC5 hnM); have hn5 := hid (show ¬ grow M w4 w5 ab from fun h => by rcases h with h | h; exact hnM h; exact (by have := hp4.out.lt; omega)); replace hL5 := hid hL5; clear hC5))
          go_roundg (ys.length - (k + 1))
          case rel => exact ⟨k + 1, I + 1, O, _, _, l0, l1, l2, by omega, rfl, by go_num, by go_num, rfl, hL5.out, hW5.out, hp5.out, hn5.out, hab, hI.out.put hAs.out⟩
          case measure => omega
        · rcases hE with rfl | rfl
          all_goals
            go_wp2_with (first | (go_at_call 15; (with_reducible refine (hRm.out _ hLB.out).mono ?_); rintro e w4 ⟨rfl, hb4⟩; have hm4 := hmA.out.below hb4; have y0 := hm4.cell 0; have y1 := hm4.cell 1; have y2 := hm4.cell 2; have y3 := hm4.cell 3; have y4 := hm4.cell 4; have yl := hm4.lt; simp only [List.getElem?_cons_zero, List.getElem?_cons_succ] at y0 y1 y2 y3 y4; have hL4 := hid (hLB.out.below hb4); have hW4 := hid (hWB.out.next hb4); have hp4 := hid (hpB.out.below hb4); clear hm4 hb4) | (go_at_call 16; (with_reducible refine (hPt.out _ hL4.out).mono ?_); rintro e w5 ⟨rfl, hL5, hC5⟩; have hW5 := hid (hW4.out.chg hC5); have hp5 := hid (hp4.out.chg hC5 hnM); have hn5 := hid (show ¬ grow M w4 w5 ab from fun h => by rcases h with h | h; exact hnM h; exact (by have := hp4.out.lt; omega)); replace hL5 := hid hL5; clear hC5))
            go_roundg (ys.length - (k + 1))
            case rel => exact ⟨k + 1, I, O, _, _, l0, l1, l2, by omega, rfl, by go_num, rfl, rfl, hL5.out, hW5.out, hp5.out, hn5.out, hab, hI.out.next⟩
            case measure => omega
      · rw [decide_eq_false h4]
        clear h4 hkd s3 s3l hs3 hwi
        have hAll := hid (fun (w : World) (h : LanesM w M lb (lnT lanes) (plT places) ms) => all_r h)
        have hsl := hid (show (sortM ms).length = ms.length from sortL_len _)
        cases hso : sortM ms with
        | nil =>
          have hms : ms = [] := List.eq_nil_of_length_eq_zero (by rw [← hsl.out, hso]; rfl)
          subst hms
          rw [hso] at hAll
          clear hso
          go_wp2_with (first | (go_at_call 17; (with_reducible refine (hAll.out _ hL3.out).mono ?_); rintro e w4 ⟨v, rfl, hv, hb4⟩; obtain ⟨a4, c4, rfl⟩ := hv.shape; simp only [List.length_nil]; have hL4 := hid (hL3.out.below hb4); have hW4 := hid (hW3.out.next hb4); have hp4 := hid (hp3.out.below hb4); clear hv hb4) | (go_at_call 18; (with_reducible refine (take_none hL4.out).mono ?_); rintro e w5 ⟨rfl, hL5, hC5⟩; have hW5 := hid (hW4.out.chg hC5); have hp5 := hid (hp4.out.chg hC5 hnM); have hn5 := hid (show ¬ grow M w4 w5 ab from fun h => by rcases h with h | h; exact hnM h; exact (by have := hp4.out.lt; omega)); replace hL5 := hid hL5; clear hC5))
          go_roundg (ys.length - (k + 1))
          case rel =>
            have hb6 := (Below.refl w5.heap.size w5).alloc (Nat.le_refl _) (.cells #[.slice none 0 0, .int .i64 0, .int .i64 0, .int .i64 0, .int .i64 0] 30)
            exact ⟨k + 1, I, O, _, _, l0, l1, l2, by omega, rfl, by go_num, rfl, rfl, hL5.out.below hb6, hW5.out.next hb6, hp5.out.below hb6, hn5.out, hab, hI.out.next⟩
          case measure => omega
        | cons m r =>
          obtain ⟨hall, hml, hlast, hI'⟩ := hI.out.take hso
          have hsm := hid (show ∀ q ∈ m :: r, m.lane ≤ q.lane ∧ (q.lane = m.lane → m.seq ≤ q.seq) from fun q hq => hall q ((sort_cons_mem hso q).2 (by simpa using hq)))
          have hlen1 : ms.length = r.length + 1 := by rw [← hsl.out, hso]; rfl
          have hr80 : r.length ≤ 80 := by have := hI.out.len; omega
          have hTk := hid (fun (w : World) (h : LanesM w M lb (lnT lanes) (plT places) ms) => take_some h hso)
          rw [hso] at hAll
          clear hall hlen1 hsl
          replace hso := hid hso
          obtain ⟨mw, ml, mst, mlt, msq⟩ := m
          unfold HandPost at hTk
          simp only at hml hlast hI' hTk
          have hmsq : msq ≤ 81 := by
            have := hI.out.seq _ ((sort_cons_mem hso.out _).2 (.inl rfl)); simp only at this; omega
          replace hI' := hid hI'
          go_upto_region 25 with (first | (go_at_call 17; (with_reducible refine (hAll.out _ hL3.out).mono ?_); rintro e w4 ⟨v, rfl, ⟨ps, hps, hv⟩, hb4⟩; obtain ⟨a4, c4, rfl⟩ := hv.shape; have hpl : ps.length = r.length + 1 := (by have := congrArg List.length hps; simpa using this); rw [hpl]; replace hpl := hid hpl; replace hps := hid hps; have hv4 := hid hv; have hL4 := hid (hL3.out.below hb4); have hW4 := hid (hW3.out.next hb4); have hp4 := hid (hp3.out.below hb4); have hv4s := hid (show w3.heap.size ≤ w4.heap.size from hb4.size); have hM4 := hid (show ∀ b, M b → b < w3.heap.size from hL3.out.lt); clear hv hb4) | (go_at_call 18; (with_reducible refine (hTk.out _ hL4.out).mono ?_); rintro e w5 ⟨⟨a5, c5, rfl, -⟩, hL5, hC5⟩; have hW5 := hid (hW4.out.chg hC5); have hp5 := hid (hp4.out.chg hC5 hnM); have hn5 := hid (show ¬ grow M w4 w5 ab from fun h => by rcases h with h | h; exact hnM h; exact (by have := hp4.out.lt; omega)); have hv5 := hid (hv4.out.kept hC5.size (fun b hb hlt => hC5.block b hlt (fun hm => by have := hM4.out b hm; rcases hb with hb | hb <;> omega))); replace hL5 := hid hL5; clear hC5))
          have hb6 := (Below.refl w5.heap.size w5).alloc (Nat.le_refl _) (.cells #[.slice a5 mw.length c5, .int .i64 ml, .int .i64 mst, .int .i64 mlt, .int .i64 msq] 30)
          have hm6 := hid (pts.newA w5 #[.slice a5 mw.length c5, .int .i64 ml, .int .i64 mst, .int .i64 mlt, .int .i64 msq] 30)
          have hL6 := hid (hL5.out.below hb6)
          have hW6 := hid (hW5.out.next hb6)
          have hp6 := hid (hp5.out.below hb6)
          have hv6 := hid (hv5.out.below hb6)
          have hab6 := hid (show ab ≠ w5.heap.size from fun e => by have := hp5.out.lt; omega)
          clear hb6 hL5 hW5 hp5 hv5 hL4 hW4 hp4 hv4 hL3 hW3 hp3
          generalize w5.alloc (.cells #[.slice a5 mw.length c5, .int .i64 ml, .int .i64 mst, .int .i64 mlt, .int .i64 msq] 30) = W6 at hm6 hL6 hW6 hp6 hv6 ⊢
          generalize w5.heap.size = mb at hm6 hab6 ⊢
          go_wp2
          go_loopg [19] (r.length + 1) (fun gg sj w7 => ∃ j : Nat, j ≤ r.length + 1 ∧ gg = r.length + 1 - j ∧ sj = .int .i64 j ∧ Below W6.heap.size W6 w7)
          case atStart => exact ⟨0, by omega, rfl, rfl, Below.refl _ _⟩
          case round =>
            obtain ⟨j, hj, hgj, rfl, hb7⟩ := hrel
            have hm7 := hm6.out.below hb7
            by_cases hlt2 : j < r.length + 1
            · have hjp : j < ps.length := by have := hpl.out; omega
              obtain ⟨g2, o2, a2', c2', rfl, -, hpe, hat, -⟩ := (hv6.out.below hb7).at5 hjp
              have hq := hsm.out ps[j].2 (by rw [← hps.out]; exact List.mem_map_of_mem (List.getElem_mem hjp))
              generalize ps[j].2 = q2 at hat hq
              obtain ⟨x0, x1, x2, x3, x4, hxl⟩ := hat
              have y1 := hm7.cell 1
              have y4 := hm7.cell 4
              have yl := hm7.lt
              simp only [List.getElem?_cons_zero, List.getElem?_cons_succ] at y1 y4
              have e1 : decide (q2.lane < ml) = false := by simp; omega
              have e2 : decide ((j : Int) < (r.length : Int) + 1) = true := by simp; omega
              have e3 : (j : Int) < (r.length : Int) + 1 := by omega
              clear hm7
              replace hb7 := hid hb7
              by_cases he : q2.lane = ml
              · have e4 : (q2.lane == ml) = true := by simpa using he
                have e5 : decide (q2.seq < msq) = false := by have := hq.2 he; simp; omega
                replace he := hid he
                replace hq := hid hq
                go_wp2
                go_quiet (fail)
                go_wp2
                go_roundg (r.length + 1 - (j + 1))
                case rel => exact ⟨j + 1, by omega, rfl, by go_num, hb7.out.trans (K.Below.drewN _ _ _)⟩
                case measure => omega
              · have e4 : (q2.lane == ml) = false := by simpa using he
                replace he := hid he
                replace hq := hid hq
                go_wp2
                go_quiet (fail)
                go_wp2
                go_roundg (r.length + 1 - (j + 1))
                case rel => exact ⟨j + 1, by omega, rfl, by go_num, hb7.out.trans (K.Below.drewN _ _ _)⟩
                case measure => omega
            · obtain rfl : j = r.length + 1 := by omega
              have hp7 := hp6.out.below hb7
              have hL7 := hid (hL6.out.below hb7)
              have hW7 := hid (hW6.out.next hb7)
              have y1 := hm7.cell 1
              have y4 := hm7.cell 4
              have yl := hm7.lt
              have z0 := hp7.cell 0
              have z1 := hp7.cell 1
              have z2 := hp7.cell 2
              have fz := fun o => hp7.frozen o
              have zl := hp7.lt
              simp only [List.getElem?_cons_zero, List.getElem?_cons_succ] at y1 y4 z0 z1 z2
              have hp8 := hid (fun (w8 : World) (h : Below wr.heap.size wr w8) (o : Nat) (v : Value) => (hp7.below h).set o v)
              have hL8 := hid (fun (w8 : World) (h : Below wr.heap.size wr w8) (o : Nat) (v : Value) => (hL7.out.below h).kept (w' := w8.setCell ⟨ab, o, none⟩ v) (by simp) (fun b hb hlt => Below.heap_setCell _ _ _ _ (fun e => by have e : b = ab := e; subst e; exact hn5.out hb)))
              have hW8 := hid (fun (w8 : World) (h : Below wr.heap.size wr w8) (o : Nat) (v : Value) => show Wd w.heap.size w (w8.setCell ⟨ab, o, none⟩ v) _ from ⟨((hW7.out.next h).below).setCell hab _, (hW7.out.next h).ge, fun b hb => by have := (hW7.out.next h).lt b hb; simpa using this, by have := (hW7.out.next h).le; simpa using this⟩)
              clear hm7 hp7
              replace hb7 := hid hb7
              have e2 : decide ((r.length : Int) + 1 < (r.length : Int) + 1) = false := by simp
              have hml3 : ml = 0 ∨ ml = 1 ∨ ml = 2 := by omega
              rcases hml3 with rfl | rfl | rfl
              · have hl' : l0 < msq := by simpa [lastOf] using hlast
                have e5 : decide (msq ≤ l0) = false := by simp; omega
                clear hl' hlast
                go_wp2
                go_quiet (fail)
                go_wp2
                go_roundg (ys.length - (k + 1))
                case rel => exact ⟨k + 1, I, O + 1, _, _, msq, l1, l2, by omega, rfl, by go_num, rfl, by go_num, hL8.out _ (K.Below.drewN _ _ _) 0 _, hW8.out _ (K.Below.drewN _ _ _) 0 _, by simpa using hp8.out _ (K.Below.drewN _ _ _) 0 _, hn5.out, hab, by simpa using hI'.out⟩
                case measure => omega
              · have hl' : l1 < msq := by simpa [lastOf] using hlast
                have e5 : decide (msq ≤ l1) = false := by simp; omega
                clear hl' hlast
                go_wp2
                go_quiet (fail)
                go_wp2
                go_roundg (ys.length - (k + 1))
                case rel => exact ⟨k + 1, I, O + 1, _, _, l0, msq, l2, by omega, rfl, by go_num, rfl, by go_num, hL8.out _ (K.Below.drewN _ _ _) 1 _, hW8.out _ (K.Below.drewN _ _ _) 1 _, by simpa using hp8.out _ (K.Below.drewN _ _ _) 1 _, hn5.out, hab, by simpa using hI'.out⟩
                case measure => omega
              · have hl' : l2 < msq := by simpa [lastOf] using hlast
                have e5 : decide (msq ≤ l2) = false := by simp; omega
                clear hl' hlast
                go_wp2
                go_quiet (fail)
                go_wp2
                go_roundg (ys.length - (k + 1))
                case rel => exact ⟨k + 1, I, O + 1, _, _, l0, l1, msq, by omega, rfl, by go_num, rfl, by go_num, hL8.out _ (K.Below.drewN _ _ _) 2 _, hW8.out _ (K.Below.drewN _ _ _) 2 _, by simpa using hp8.out _ (K.Below.drewN _ _ _) 2 _, hn5.out, hab, by simpa using hI'.out⟩
                case measure => omega
    · obtain rfl : k = ys.length := by omega
      have hl := hI.len
      have hle := hI.le
      have hmo := hI.most
      go_wp2_with (first | (go_at_call 19; (with_reducible refine (len_c hL).mono ?_); rintro e w' ⟨rfl, rfl⟩))
      go_ret
      exact ⟨rbool (by simp; omega), hW.below⟩
end Go.Proofs.Ytbbhhjoohfkanaa.La
