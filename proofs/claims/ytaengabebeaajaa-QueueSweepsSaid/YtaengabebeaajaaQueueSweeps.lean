/- DERIVED. The walk over the statement QueueSweeps (under way). -/
import Derived.Test.YtaengabebeaajaaQueueJ
import Derived.Test.YtaengabebeaajaaRefMsg
namespace Go.Proofs.Ytaengabebeaajaa.Qu
set_option linter.unusedVariables false
set_option linter.unusedSimpArgs false
open Go.RowKit Go.Maps Go.Proofs.Ytaengabebeaajaa.K Go.Proofs.Ytaengabebeaajaa.Lb Go.Proofs.Ytaengabebeaajaa.Wh
section
variable {w : World} {base pb : Nat} {hold : Int} {ps : List (Value × Msg)} {N : Nat} {M : Nat → Prop}
theorem pPutFullB (h : PortM w base pb hold ps N M) (m : Msg) (a : Option Addr) (n c : Nat) (hf : (ps.length : Int) = hold) :
    Calls Try.prog 20 #[.pointer (some ⟨pb, 0, none⟩), .agg #[.slice a n c, .int .i64 m.lane, .int .i64 m.stamp, .int .i64 m.late, .int .i64 m.seq]] w fun e w' => e = .returned (.tuple #[.int .i64 0, .bool false, .int .i64 10]) ∧ Below w.heap.size w w' := by
  obtain ⟨wb, mb, lv, rv, n', D, s, hP, hn, _, _⟩ := h
  exact putFull_c hP (.slice a n c, m) ⟨a, n, c, rfl⟩ hf
end
/-- Ahead of step k: the port's messages and the own row's are the same, the first ones of the script, 8 at most. -/
structure Own (w wr : World) (base pb : Nat) (vo : Value) (os ps : List (Value × Msg)) (M : Nat → Prop) (k : Nat) : Prop where
  port : PortM wr base pb 8 ps 0 M
  same : ps.map Prod.snd = os.map Prod.snd
  len : os.length = min k 8
  own : wr.ownsRow w.heap.size 30 5 vo os.length (flat encM os)
  words : WordsIn (fun b => b < w.heap.size) wr os
  few : ∀ p ∈ os, p.2.words.length ≤ 8
  apart : ∀ b, vo.ownBlock = some b → ¬ M b
  new : ∀ b, M b → w.heap.size ≤ b ∧ b < wr.heap.size
  below : Below w.heap.size w wr
theorem Own.full {w wr w' : World} {base pb : Nat} {vo : Value} {os ps : List (Value × Msg)} {M : Nat → Prop} {k : Nat} (h : Own w wr base pb vo os ps M k) (hb : Below wr.heap.size wr w') (hk : ¬ k < 8) : Own w w' base pb vo os ps M (k + 1) :=
  ⟨h.port.kept hb.size (fun b _ hlt => hb.block b hlt), h.same, by rw [h.len]; omega, own_of h.own (fun b e => hb.block b (own_lt h.own e)), h.words.below hb, h.few, h.apart, fun b hb' => ⟨(h.new b hb').1, Nat.lt_of_lt_of_le (h.new b hb').2 hb.size⟩, Below.next h.below hb h.below.size⟩
theorem Own.add {w wr W w4 w5 : World} {base pb : Nat} {vo : Value} {os ps : List (Value × Msg)} {M : Nat → Prop} {k : Nat} (h : Own w wr base pb vo os ps M k) (hW : Below wr.heap.size wr W) (hk : k < 8) {sv' swv : Value} {m : Msg} (hP4 : PortM w4 base pb 8 (ps ++ [(sv', m)]) 0 (fun b => M b ∨ (W.heap.size ≤ b ∧ b < w4.heap.size))) (hc4 : Chg M W w4) {o : Obj} {g' cap' : Nat}
    (hr : w5.ownsRow w.heap.size 30 5 (.slice (some ⟨g', 0, none⟩) (os.length + 1) cap') (os.length + 1) (flat encM os ++ encM (swv, m))) (hg : (w4.alloc o).grownBy w5 vo.ownBlock) (hor : vo.ownBlock = some g' ∨ g' = (w4.alloc o).heap.size) (hwd : IntsAt (fun b => b < w.heap.size) W swv m.words) (hfew : m.words.length ≤ 8) :
    Own w w5 base pb (.slice (some ⟨g', 0, none⟩) (os.length + 1) cap') (os ++ [(swv, m)]) (ps ++ [(sv', m)]) (fun b => M b ∨ (W.heap.size ≤ b ∧ b < w4.heap.size)) (k + 1) := by
  have hvo : ∀ b, vo.ownBlock = some b → b < wr.heap.size ∧ w.heap.size ≤ b := fun b e => ⟨own_lt h.own e, own_block_ge h.own b e⟩
  have s1 := hW.size
  have s2 := hc4.size
  have s3 : (w4.alloc o).heap.size = w4.heap.size + 1 := by simp
  have s4 := hg.size
  have s0 := h.below.size
  have k45 : ∀ b, b < w4.heap.size → vo.ownBlock ≠ some b → w5.heap[b]? = w4.heap[b]? := fun b hlt hne => (hg.block b (by omega) (fun e => hne e.symm)).trans (Below.heap_alloc _ _ _ hlt)
  have hMn : ∀ b, (M b ∨ (W.heap.size ≤ b ∧ b < w4.heap.size)) → vo.ownBlock ≠ some b := fun b hb e => by
    rcases hb with hb | hb
    · exact h.apart b e hb
    · have := hvo b e; omega
  have kW5 : ∀ b, b < w.heap.size → w5.heap[b]? = W.heap[b]? := fun b hlt => (k45 b (by omega) (fun e => by have := hvo b e; omega)).trans (hc4.block b (by omega) (fun hm => by have := h.new b hm; omega))
  refine ⟨hP4.kept (by omega) (fun b hb hlt => k45 b hlt (hMn b hb)), by rw [List.map_append, List.map_append, h.same]; rfl, by rw [List.length_append, h.len]; simp; omega, ?_, ?_, ?_, ?_, ?_, ?_⟩
  · rw [List.length_append, flat_append, flat_single]; exact hr
  · refine WordsIn.snoc ((h.words.below hW).kept (w' := w5) (by omega) (fun b hb _ => kW5 b hb)) (hwd.kept (w' := w5) (by omega) (fun b hb _ => kW5 b hb))
  · intro p hp
    rcases List.mem_append.1 hp with h1 | h1
    · exact h.few p h1
    · simp at h1; subst h1; exact hfew
  · intro b hb hm
    have e : g' = b := by simpa [Value.ownBlock] using hb
    rcases hor with e2 | e2
    · exact hMn b hm (e ▸ e2)
    · rcases hm with hm | hm
      · have := h.new b hm; omega
      · omega
  · intro b hb
    rcases hb with hb | hb
    · have := h.new b hb; omega
    · omega
  · refine ⟨hg.os.trans (hc4.os.trans (hW.os.trans h.below.os)), hg.tape.trans (hc4.tape.trans (hW.tape.trans h.below.tape)), hg.output.trans (hc4.output.trans (hW.output.trans h.below.output)), by omega, fun b hlt => (kW5 b hlt).trans ((hW.block b (by omega)).trans (h.below.block b hlt))⟩
set_option maxHeartbeats 4000000 in
set_option maxRecDepth 100000 in
theorem sweeps_c {w : World} {vs : Value} (now : Int) {qs : List (Value × St)} (hs : StepsAt w vs qs) : Calls Try.prog 4 #[vs, .int .i64 now] w (LivesPost w) := by
  have hs0 := hid hs
  obtain ⟨a2, c2, rfl⟩ := hs.shape
  clear hs
  have h8 := hid (show holdT 8 = 8 by unfold holdT; decide)
  go_enter Try.func4, Try.ntmps4
  go_wp2_with (first | (go_at_call 15; (with_reducible refine (lives_c _).mono ?_); rintro e w1 ⟨rfl, hb1⟩; have hb1 := hid hb1) | (go_at_call 16; (with_reducible refine (pNew _ 8).mono ?_); rintro e w2 ⟨pb, rfl, hP2, hb2⟩; rw [h8.out] at hP2; have hB2 := hid (Below.next hb1.out hb2 hb1.out.size); have hP2 := hid hP2; clear hb2))
  have hP3 := hP2.out
  have hB3 := hB2.out
  have hbase := hid hb1.out.size
  clear hP2 hB2 hb1
  generalize w1.heap.size = base at hP3 hbase
  go_loopg [7, 6] 12 (fun g i vo wr => ∃ (k : Nat) (uo : Value) (os ps : List (Value × Msg)) (M : Nat → Prop), k ≤ 12 ∧ k ≤ qs.length ∧ g = 12 - k ∧ i = .int .i64 k ∧ uo = vo ∧ Own w wr base pb uo os ps M k)
  case atStart => exact ⟨0, _, [], [], _, by omega, by omega, rfl, rfl, rfl, ⟨PortM.new hP3, rfl, rfl, World.ownsRow_nil _ _ _ _, WordsIn.nil _ _, (fun p hp => by cases hp), (fun b h => by cases h), fun b hb => ⟨Nat.le_trans hbase.out hb.1, hb.2⟩, hB3⟩⟩
  case round =>
    obtain ⟨k, uo, os, ps, M, hk12, hkl, hgk, rfl, rfl, hO⟩ := hrel
    obtain ⟨au, cu, rfl⟩ := own_shape hO.own
    have hO' := hid hO
    by_cases hlt : k < qs.length ∧ k < 12
    · obtain ⟨hlt, hlt12⟩ := hlt
      obtain ⟨-, hcl, hcm, hget⟩ := (hs0.out.below hO.below).cells
      obtain ⟨g, o, rfl, hg, ⟨asv, nsv, csv, hsv⟩, hwi, d0, d1, d2, d3, d4, d5, d6, d7, d8⟩ := hget k hlt
      obtain ⟨-, -, -, hget0⟩ := hs0.out.cells
      obtain ⟨g0, o0, -, -, -, hwi0, -⟩ := hget0 k hlt
      obtain ⟨asw, csw, hsw⟩ := hwi.shape
      rw [hsw] at hwi hwi0 d4
      clear hget hget0 hsv hsw
      have hwc0 : IntsAt (fun b => b < w.heap.size) w (.slice asw (cut8 qs[k].2.m).words.length csw) (cut8 qs[k].2.m).words := IntsAt.cut (hwi0.mono (fun b _ h => h)) 8
      have hwi1 := hwi.below (w' := wr) (Below.refl _ _)
      have h8l : (cut8 qs[k].2.m).words.length ≤ 8 := by unfold cut8; simp; omega
      clear hwi0
      have hwc0 := hid hwc0
      have hwi := hid hwi
      generalize qs[k].2 = q at d0 d1 d2 d3 d4 d5 d6 d7 d8 hwc0 hwi hwi1 h8l
      clear hwi1
      go_upto_region 9 with (first | (go_at_call 23; (with_reducible refine (message_c q hwi.out).mono ?_); rintro e w3 ⟨rfl, hb3⟩; have hb3 := hid hb3))
      have hbW := hb3.out.alloc hb3.out.size (.cells #[.slice asw (cut8 q.m).words.length csw, .int .i64 q.m.lane, .int .i64 q.m.stamp, .int .i64 q.m.late, .int .i64 q.m.seq] 30)
      have hmW : pts (w3.alloc (.cells #[.slice asw (cut8 q.m).words.length csw, .int .i64 q.m.lane, .int .i64 q.m.stamp, .int .i64 q.m.late, .int .i64 q.m.seq] 30)) w3.heap.size [.slice asw (cut8 q.m).words.length csw, .int .i64 q.m.lane, .int .i64 q.m.stamp, .int .i64 q.m.late, .int .i64 q.m.seq] 30 := pts.newA w3 _ _
      have hzm := hid (show wr.heap.size ≤ w3.heap.size from hb3.out.size)
      generalize w3.alloc (.cells #[.slice asw (cut8 q.m).words.length csw, .int .i64 q.m.lane, .int .i64 q.m.stamp, .int .i64 q.m.late, .int .i64 q.m.seq] 30) = W at hbW hmW ⊢
      generalize w3.heap.size = mb at hmW hzm ⊢
      clear hb3 d0 d1 d2 d3 d4 d5 d6 d7 d8
      have hPW := hO.port.kept hbW.size (fun b hb hlt => hbW.block b hlt)
      have hiW := (hwc0.out.below hO.below).below (hbW.mono (Nat.le_refl _))
      have hps : ps.length = min k 8 := by have := congrArg List.length hO.same; simp at this; rw [this]; exact hO.len
      have hcellm := hid hmW
      have m0 := hmW.cell 0
      have m1 := hmW.cell 1
      have m2 := hmW.cell 2
      have m3 := hmW.cell 3
      have m4 := hmW.cell 4
      have ml := hmW.lt
      simp only [List.getElem?_cons_zero, List.getElem?_cons_succ] at m0 m1 m2 m3 m4
      clear hmW
      by_cases hk8 : k < 8
      · have hput : Calls Try.prog 20 #[.pointer (some ⟨pb, 0, none⟩), .agg #[.slice asw (cut8 q.m).words.length csw, .int .i64 q.m.lane, .int .i64 q.m.stamp, .int .i64 q.m.late, .int .i64 q.m.seq]] W _ := pPutAddM' hPW (cut8 q.m) hiW (by omega) (by omega) (by omega)
        have hput := hid hput
        have hosl := hid (show os.length ≤ 8 by rw [hO.len]; omega)
        have hsz := hid hO.below.size
        go_wp2_with (first | (go_at_call 20; (with_reducible refine (hput.out).mono ?_); rintro e w4 ⟨rfl, ⟨sv', hP4⟩, hc4⟩; have hm4 := hcellm.out.chg hc4 (fun hm => by have := hO'.out.new _ hm; have := hzm.out; omega); have y0 := hm4.cell 0; have y1 := hm4.cell 1; have y2 := hm4.cell 2; have y3 := hm4.cell 3; have y4 := hm4.cell 4; have yl := hm4.lt; simp only [List.getElem?_cons_zero, List.getElem?_cons_succ] at y0 y1 y2 y3 y4; have hown4 := hid (own_of hO'.out.own (fun b e => (hc4.block b (Nat.lt_of_lt_of_le (own_lt hO'.out.own e) hbW.size) (fun hm => hO'.out.apart b e hm)).trans (hbW.block b (own_lt hO'.out.own e)))); have hz4 := hid (Nat.le_trans hsz.out (Nat.le_trans hbW.size hc4.size)); have hP4 := hid hP4; have hc4 := hid hc4; clear hm4) | (at_builtin; (refine wpList_push2 rfl (.tmp 46) (.tmp 48) 40 rfl elMsg (v := .slice au os.length cu) rfl (hown4.out.alloc _) (Nat.le_trans hz4.out (by simp)) rfl (news := encM (.slice asw (cut8 q.m).words.length csw, cut8 q.m)) rfl (heap_at _ _ _ rfl) (by simp [encM, Value.oneCell']) (by omega) (by have := hosl.out; unfold maxLen; omega) (by have := hosl.out; omega) ?_; intro g' cap' w5 hown5 hg5 hor5 hlt5; have hfin := hid (hO'.out.add hbW hk8 hP4.out hc4.out hown5 hg5 hor5 (hwc0.out.kept (Nat.le_trans hsz.out hbW.size) (fun b hb _ => (hbW.block b (Nat.lt_of_lt_of_le hb hsz.out)).trans (hO'.out.below.block b hb))) h8l))))
        go_roundg (12 - (k + 1))
        case rel => exact ⟨k + 1, _, _, _, _, by omega, by omega, rfl, by go_num, rfl, hfin.out⟩
        case measure => omega
      · have hput : Calls Try.prog 20 #[.pointer (some ⟨pb, 0, none⟩), .agg #[.slice asw (cut8 q.m).words.length csw, .int .i64 q.m.lane, .int .i64 q.m.stamp, .int .i64 q.m.late, .int .i64 q.m.seq]] W _ := pPutFullB hPW (cut8 q.m) asw (cut8 q.m).words.length csw (by omega)
        have hput := hid hput
        go_wp2_with (first | (go_at_call 20; (with_reducible refine (hput.out).mono ?_); rintro e w4 ⟨rfl, hb4⟩; have hb4 := hid hb4))
        go_roundg (12 - (k + 1))
        case rel => exact ⟨k + 1, _, os, ps, M, by omega, by omega, rfl, by go_num, rfl, hO'.out.full (Below.next hbW hb4.out hbW.size) hk8⟩
        case measure => omega
    · have hex : ¬ k < qs.length ∨ (k < qs.length ∧ ¬ k < 12) := by omega
      clear hlt
      obtain ⟨-, hclq, hcmq, -⟩ := hs0.out.cells
      have hosl : os.length ≤ 8 := by rw [hO.len]; omega
      obtain ⟨W1, rfl⟩ : ∃ x, x = wr := ⟨_, rfl⟩
      have hms := MsgsAt.of_own hO.own hO.words
      have hPm := hO.port
      have hnew := hid hO.new
      have hfew := hid hO.few
      have hsame := hid hO.same
      have hbel := hO.below
      clear hO hO'
      have hB1 := hid (Two.start encM encM 30 30 5 5 (Below.refl W1.heap.size W1) (Nat.le_refl _))
      obtain ⟨-, hl1, hm1, hget⟩ := hms.get
      have hget := hid hget
      have hms := hid hms
      have hPm := hid hPm
      have hbel := hid hbel
      rcases hex with hex | ⟨hex, hex2⟩
      all_goals
        go_wp2
        go_loopg [14, 12, 13] os.length (fun g i uo ur w2 => ∃ (j : Nat) (vo vr : Value), j ≤ os.length ∧ g = os.length - j ∧ i = .int .i64 j ∧ vo = uo ∧ vr = ur ∧ Two encM encM W1.heap.size W1 w2 30 30 5 5 vo vr ((os.take j).filter (lateP now)) ((os.take j).filter (fun p => !lateP now p)))
        case atStart => exact ⟨0, _, _, Nat.zero_le _, rfl, rfl, rfl, rfl, hB1.out⟩
        case round =>
          obtain ⟨j, vo, vr, hj, hgj, rfl, rfl, rfl, hT⟩ := hrel
          by_cases hjl : j < os.length
          · obtain ⟨ga, oa, rfl, -, hga, x0, x1, x2, x3, x4, hw1⟩ := hget.out j hjl
            have hb := hT.below
            have x0 := (hb.cell (p := ⟨ga, oa + j * 5, none⟩) hga).trans x0
            have x1 := (hb.cell (p := ⟨ga, oa + j * 5 + 1, none⟩) hga).trans x1
            have x2 := (hb.cell (p := ⟨ga, oa + j * 5 + 2, none⟩) hga).trans x2
            have x3 := (hb.cell (p := ⟨ga, oa + j * 5 + 3, none⟩) hga).trans x3
            have x4 := (hb.cell (p := ⟨ga, oa + j * 5 + 4, none⟩) hga).trans x4
            have hf1 := filter_take (lateP now) hjl
            have hf2 := filter_take (fun p => !lateP now p) hjl
            have hlo := filter_take_le os j (lateP now)
            have hlr := filter_take_le os j (fun p => !lateP now p)
            obtain ⟨as1, cs1, hs1⟩ := hw1.shape
            clear hw1
            rw [hs1] at x0
            have hpk : os[j] = (.slice as1 os[j].2.words.length cs1, os[j].2) := by rw [← hs1]
            generalize os[j] = p at x0 x1 x2 x3 x4 hf1 hf2 hpk
            clear hs1
            generalize p.2 = m at x0 x1 x2 x3 x4 hpk
            subst hpk
            generalize (os.take j).filter (lateP now) = lo at hT hf1 hlo
            generalize (os.take j).filter (fun p => !lateP now p) = lr at hT hf2 hlr
            obtain ⟨⟨ao, co, rfl⟩, ⟨ar, cr, rfl⟩⟩ := hT.shapes
            have hbs := hb.size
            clear hb
            have hlo := hid (show lo.length < 1000000 by omega)
            have hlr := hid (show lr.length < 1000000 by omega)
            have hcl := hid (fun (w5 : World) (h5 : Below wr.heap.size wr w5) => show w5.cell? ⟨ga, oa + j * 5, none⟩ = _ ∧ w5.cell? ⟨ga, oa + j * 5 + 1, none⟩ = _ ∧ w5.cell? ⟨ga, oa + j * 5 + 2, none⟩ = _ ∧ w5.cell? ⟨ga, oa + j * 5 + 3, none⟩ = _ ∧ w5.cell? ⟨ga, oa + j * 5 + 4, none⟩ = _ from ⟨(h5.cell (p := ⟨ga, _, none⟩) (Nat.lt_of_lt_of_le hga hbs)).trans x0, (h5.cell (p := ⟨ga, _, none⟩) (Nat.lt_of_lt_of_le hga hbs)).trans x1, (h5.cell (p := ⟨ga, _, none⟩) (Nat.lt_of_lt_of_le hga hbs)).trans x2, (h5.cell (p := ⟨ga, _, none⟩) (Nat.lt_of_lt_of_le hga hbs)).trans x3, (h5.cell (p := ⟨ga, _, none⟩) (Nat.lt_of_lt_of_le hga hbs)).trans x4⟩)
            have hT := hid hT
            cases hl : lateT now m.late with
            | true =>
              have hf1 : (os.take (j + 1)).filter (lateP now) = lo ++ [(.slice as1 m.words.length cs1, m)] := by rw [hf1]; simp [lateP, hl]
              have hf2 : (os.take (j + 1)).filter (fun p => !lateP now p) = lr := by rw [hf2]; simp [lateP, hl]
              have hf1 := hid hf1
              have hf2 := hid hf2
              replace hl := hid hl
              go_wp2_with (first | (go_at_call 24; (with_reducible refine (R2.late_c _ as1 m.words.length cs1 m now).mono ?_); rw [hl.out]; rintro e w5 ⟨rfl, hb5⟩; obtain ⟨z0, z1, z2, z3, z4⟩ := hcl.out w5 hb5; have hT5 := hid (hT.out.next hb5); have hg5 := Nat.lt_of_lt_of_le hga (Nat.le_trans hbs hb5.size); have hb5 := hid hb5) | (at_builtin; (refine Two.wpA elMsg (hT5.out.alloc _) rfl (.tmp 63) (.tmp 68) rfl rfl (y := (.slice as1 m.words.length cs1, m)) rfl (heap_at _ _ _ (by simp)) rfl (by simp [encM, Value.oneCell']) hlo.out (by omega) ?_; intro g' cap' w6 hT6 hz6; have hT6 := hid hT6)))
              go_roundg (os.length - (j + 1))
              case rel => exact ⟨j + 1, _, _, by omega, rfl, by go_num, rfl, rfl, by rw [hf1.out, hf2.out]; exact hT6.out⟩
              case measure => omega
            | false =>
              have hf1 : (os.take (j + 1)).filter (lateP now) = lo := by rw [hf1]; simp [lateP, hl]
              have hf2 : (os.take (j + 1)).filter (fun p => !lateP now p) = lr ++ [(.slice as1 m.words.length cs1, m)] := by rw [hf2]; simp [lateP, hl]
              have hf1 := hid hf1
              have hf2 := hid hf2
              replace hl := hid hl
              go_wp2_with (first | (go_at_call 24; (with_reducible refine (R2.late_c _ as1 m.words.length cs1 m now).mono ?_); rw [hl.out]; rintro e w5 ⟨rfl, hb5⟩; obtain ⟨z0, z1, z2, z3, z4⟩ := hcl.out w5 hb5; have hT5 := hid (hT.out.next hb5); have hg5 := Nat.lt_of_lt_of_le hga (Nat.le_trans hbs hb5.size); have hb5 := hid hb5) | (at_builtin; (refine Two.wpB elMsg (hT5.out.alloc _) rfl (.tmp 70) (.tmp 75) rfl rfl (y := (.slice as1 m.words.length cs1, m)) rfl (heap_at _ _ _ (by simp)) rfl (by simp [encM, Value.oneCell']) hlr.out (by omega) ?_; intro g' cap' w6 hT6 hz6; have hT6 := hid hT6)))
              go_roundg (os.length - (j + 1))
              case rel => exact ⟨j + 1, _, _, by omega, rfl, by go_num, rfl, rfl, by rw [hf1.out, hf2.out]; exact hT6.out⟩
              case measure => omega
          · obtain rfl : j = os.length := by omega
            rw [List.take_length] at hT
            obtain ⟨⟨ao, co, rfl⟩, ⟨ar, cr, rfl⟩⟩ := hT.shapes
            have hps : ps.length < 1000000 := by have := congrArg List.length hsame.out; simp at this; omega
            have hwo := hms.out.words
            have hmo : MsgsAt (fun b => ¬ M b) (fun b => ¬ M b) wr (.slice ao (os.filter (lateP now)).length co) (os.filter (lateP now)) := (MsgsAt.of_own hT.a ((hwo.sub (fun p hp => (List.mem_filter.1 hp).1)).below hT.below)).mono (fun b h _ hm => by have := hnew.out b hm; omega) (fun b h _ hm => by have := hnew.out b hm; omega)
            have hmr : MsgsAt (fun b => ¬ M b) (fun b => ¬ M b) wr (.slice ar (os.filter (fun p => !lateP now p)).length cr) (os.filter (fun p => !lateP now p)) := (MsgsAt.of_own hT.b ((hwo.sub (fun p hp => (List.mem_filter.1 hp).1)).below hT.below)).mono (fun b h _ hm => by have := hnew.out b hm; omega) (fun b h _ hm => by have := hnew.out b hm; omega)
            have hPw := hPm.out.below hT.below
            have hWw : Wd w.heap.size w wr M := ⟨hbel.out.trans (hT.below.mono hbel.out.size), fun b hb => (hnew.out b hb).1, fun b hb => Nat.lt_of_lt_of_le (hnew.out b hb).2 hT.below.size, Nat.le_trans hbel.out.size hT.below.size⟩
            have e1 := filter_snd hsame.out (lateM now)
            have e2 := filter_snd hsame.out (fun m => !lateM now m)
            clear hwo hT hget hgj hj hB1
            have hps := hid hps
            have hmo := hid hmo
            have hmr := hid hmr
            have hPw := hid hPw
            have hWw := hid hWw
            have e1 := hid (show (ps.filter (lateP now)).map Prod.snd = (os.filter (lateP now)).map Prod.snd from e1)
            have e2 := hid (show (ps.filter (fun p => !lateP now p)).map Prod.snd = (os.filter (fun p => !lateP now p)).map Prod.snd from e2)
            have hr8 := hid (show (ps.filter (fun p => !lateP now p)).length ≤ 8 from Nat.le_trans (List.length_filter_le _ _) (by have := congrArg List.length hsame.out; simp at this; omega))
            have hfp := hid (show ∀ p ∈ ps.filter (fun p => !lateP now p), p.2.words.length ≤ 17592186044416 from fun p hp => by
              have h1 : p.2 ∈ os.map Prod.snd := hsame.out ▸ List.mem_map_of_mem (List.mem_filter.1 hp).1
              obtain ⟨q, hq, hqe⟩ := List.mem_map.1 h1
              have := hfew.out q hq; rw [hqe] at this; omega)
            generalize os.filter (lateP now) = lo at hmo e1
            generalize os.filter (fun p => !lateP now p) = lr at hmr e2
            go_wp2_with (first | (go_at_call 26; (with_reducible refine (pSweepM hPw.out hps.out now).mono ?_); rintro e w3 ⟨⟨ov, ok1, okw1, rfl, hov⟩, hP3, hc3⟩; obtain ⟨av, cv, rfl⟩ := hov.shape; have hlo3 := hid (hmo.out.grow hc3); have hlr3 := hid (hmr.out.grow hc3); have hWd3 := hid (hWw.out.chg hc3); generalize grow M wr w3 = M3 at hP3 hlo3 hlr3 hWd3; generalize hpl : ps.filter (lateP now) = pl at hov e1; clear hpl; generalize hpr : ps.filter (fun p => !lateP now p) = pr at hP3 e2 hr8 hfp; clear hpr; have hP3 := hid hP3; have hov := hid hov; clear hc3) | (go_at_call 25; (with_reducible refine (R2.same_eq hov.out hlo3.out e1.out).mono ?_); rintro e w4 ⟨rfl, hb4⟩; have hlr4 := hid (hlr3.out.below hb4); have hWd4 := hid (hWd3.out.next hb4); have hP4 := hid (hP3.out.below hb4); clear hb4) | (go_at_call 27; (with_reducible refine (pAll hP4.out.ok (by have := hr8.out; omega) hfp.out).mono ?_); rintro e w5 ⟨⟨ov5, qs5, ok5, okw5, rfl, hq5, hov5⟩, hb5⟩; obtain ⟨av5, cv5, rfl⟩ := hov5.shape; have hlr5 := hid (hlr4.out.below hb5); have hWd5 := hid (hWd4.out.next hb5); have hP5 := hid (hP4.out.below hb5); have hov5 := hid hov5; have hq5 := hid hq5; clear hb5) | (go_at_call 25; (with_reducible refine (R2.same_eq hov5.out hlr5.out (hq5.out.trans e2.out)).mono ?_); rintro e w6 ⟨rfl, hb6⟩; have hlr6 := hid (hlr5.out.below hb6); have hWd6 := hid (hWd5.out.next hb6); have hP6 := hid (hP5.out.below hb6); clear hb6))
            have e2 := e2.out
            have hll : pr.length = lr.length := by simpa using congrArg List.length e2
            have hlr8 : lr.length ≤ 8 := by have := hr8.out; omega
            replace hll := hid hll
            have e2 := hid e2
            have hlr6 := hlr6.out
            have hWd6 := hWd6.out
            have hP6 := hP6.out
            go_loopg [16] lr.length (fun g i wr => ∃ (j : Nat) (M' : Nat → Prop), j ≤ lr.length ∧ g = lr.length - j ∧ i = .int .i64 j ∧ PortM wr base pb 8 (pr.drop j) 0 M' ∧ Wd w.heap.size w wr M' ∧ MsgsAt (fun b => ¬ M' b) (fun b => ¬ M' b) wr (.slice ar lr.length cr) lr)
            case atStart => exact ⟨0, M3, Nat.zero_le _, rfl, rfl, hP6, hWd6, hlr6⟩
            case round =>
              clear hlr6 hWd6 hP6
              obtain ⟨j, M', hj, hgj, rfl, hP, hW, hR⟩ := hrel
              by_cases hjl : j < lr.length
              · have hjp : j < pr.length := by have := hll.out; omega
                obtain ⟨g, o, a, c, rfl, hgm, -, hat, hiw⟩ := hR.at5 hjl
                have hmm : pr[j].2 = lr[j].2 := by have := congrArg (fun l => l[j]?) e2.out; simpa [hjl, hjp] using this
                rw [List.drop_eq_getElem_cons hjp] at hP
                obtain ⟨-, hcl, hcm, -⟩ := hR.get
                generalize lr[j].2 = m at hat hiw hmm
                generalize pr[j] = p at hP hmm
                obtain ⟨sv, m2⟩ := p
                simp only at hmm
                subst hmm
                have hP := hid hP
                have hW := hid hW
                have hR := hid hR
                have hiw := hid hiw
                have hat := hid hat
                go_upto_region 26 with (first | (go_at_call 21; (with_reducible refine (pAskHasM hP.out _ _ _).mono ?_); rintro e w7 ⟨rfl, hi7, hP7, hc7⟩; obtain ⟨a7, c7, rfl⟩ := hi7.shape; have hat7 := hat.out.chg hc7 hgm; have hR7 := hR.out.grow hc7; have hW7 := hW.out.chg hc7; have hiw7 := hiw.out.grow hc7; generalize grow M' wr w7 = M7 at hP7 hR7 hW7 hiw7; have hat7 := hid hat7; have hR7 := hid hR7; have hW7 := hid hW7; have hiw7 := hid hiw7; have hP7 := hid hP7; have hi7 := hid hi7; clear hc7))
                have hbA := (Below.refl w7.heap.size w7).alloc (Nat.le_refl _) (.cells #[.slice a7 m2.words.length c7, .int .i64 m2.lane, .int .i64 m2.stamp, .int .i64 m2.late, .int .i64 m2.seq] 30)
                have hA : At5 (w7.alloc (.cells #[.slice a7 m2.words.length c7, .int .i64 m2.lane, .int .i64 m2.stamp, .int .i64 m2.late, .int .i64 m2.seq] 30)) w7.heap.size 0 (.slice a7 m2.words.length c7) m2 := At5.of_pts (pts.newA w7 _ _)
                have hB := hat7.out.below hbA
                have hR8 := hid (hR7.out.below hbA)
                have hW8 := hid (hW7.out.next hbA)
                have hiw8 := hiw7.out.below hbA
                have hi8 := hi7.out.below hbA
                have hP8 := hid (hP7.out.below hbA)
                generalize w7.alloc (.cells #[.slice a7 m2.words.length c7, .int .i64 m2.lane, .int .i64 m2.stamp, .int .i64 m2.late, .int .i64 m2.seq] 30) = W8 at hA hB hR8 hW8 hiw8 hi8 hP8 ⊢
                generalize w7.heap.size = mb at hA ⊢
                have hone := hid (fun (w : World) (h1 : Below W8.heap.size W8 w) => R2.one_eq (hi8.below h1) (hiw8.below h1) rfl)
                obtain ⟨x0, x1, x2, x3, x4, hal⟩ := hA
                obtain ⟨y0, y1, y2, y3, y4, hbl⟩ := hB
                simp only [Nat.zero_add] at x0 x1 x2 x3 x4
                clear hbA hiw8 hi8 hR7 hW7 hiw7 hi7 hP7 hat7 hat hiw
                have hju : (j : Int) < (lr.length : Int) := by omega
                go_region_held3 (fun W => W.cell? ⟨mb, 0, none⟩ = some (.slice a7 m2.words.length c7) ∧ W.cell? ⟨mb, 1, none⟩ = some (.int .i64 m2.lane) ∧ W.cell? ⟨mb, 2, none⟩ = some (.int .i64 m2.stamp) ∧ W.cell? ⟨mb, 3, none⟩ = some (.int .i64 m2.late) ∧ W.cell? ⟨mb, 4, none⟩ = some (.int .i64 m2.seq) ∧ W.cell? ⟨g, o + j * 5, none⟩ = some (.slice a m2.words.length c) ∧ W.cell? ⟨g, o + j * 5 + 1, none⟩ = some (.int .i64 m2.lane) ∧ W.cell? ⟨g, o + j * 5 + 2, none⟩ = some (.int .i64 m2.stamp) ∧ W.cell? ⟨g, o + j * 5 + 3, none⟩ = some (.int .i64 m2.late) ∧ W.cell? ⟨g, o + j * 5 + 4, none⟩ = some (.int .i64 m2.seq))
                  (first | go_keep | ((try dsimp only); (repeat' apply And.intro) <;> go_keep))
                  (first | (go_at_call 28; (with_reducible refine (hone.out _ (Below.refl _ _).drew).mono ?_); rintro e w9 ⟨rfl, hb9⟩; obtain ⟨hc9, hf9, hz9⟩ := bcellLe (W := W8.drew) W8.heap.size (Nat.le_refl _) hb9; have u0 := (hc9 _ _ hal).trans x0; have u1 := (hc9 _ _ hal).trans x1; have u2 := (hc9 _ _ hal).trans x2; have u3 := (hc9 _ _ hal).trans x3; have u4 := (hc9 _ _ hal).trans x4; have t0 := (hc9 _ _ hbl).trans y0; have t1 := (hc9 _ _ hbl).trans y1; have t2 := (hc9 _ _ hbl).trans y2; have t3 := (hc9 _ _ hbl).trans y3; have t4 := (hc9 _ _ hbl).trans y4; have hb9 := hid (Below.ofDrew hb9)))
                go_wp2
                go_roundg (lr.length - (j + 1))
                case rel => exact ⟨j + 1, _, by omega, rfl, by go_num, hP8.out.below hb9.out, hW8.out.next hb9.out, hR8.out.below hb9.out⟩
                case measure => omega
              · obtain rfl : j = lr.length := by omega
                have hz : (pr.drop lr.length).length = 0 := by have := hll.out; simp; omega
                have hlz := hid hz
                clear hz
                go_wp2_with (first | (go_at_call 22; (with_reducible refine (pLen hP.ok).mono ?_); rw [hlz.out]; rintro e w' ⟨rfl, rfl⟩))
                go_ret
                exact ⟨rfl, hW.below⟩
end Go.Proofs.Ytaengabebeaajaa.Qu
