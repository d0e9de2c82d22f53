/- DERIVED. The walk over the statement LaneSame: two lists of messages are told the same by the program just if they are by the reference. -/
import Derived.Test.YtbbhhjoohfkanaaLaneJ
import Derived.Test.YtbbhhjoohfkanaaRefLaneB
import Derived.Test.YtbbhhjoohfkanaaRegR
namespace Go.Proofs.Ytbbhhjoohfkanaa.La
set_option linter.unusedVariables false
set_option linter.unusedSimpArgs false
open Go.RowKit Go.Proofs.Ytbbhhjoohfkanaa.K Go.Proofs.Ytbbhhjoohfkanaa.R2 Go.Proofs.Ytbbhhjoohfkanaa.So
theorem msgs_of_pts {okw : Nat → Prop} {w : World} {g c : Nat} {ps : List (Value × Msg)} {ex : List Value} {T : TypeId} (h : pts w g (flat encM ps ++ ex) T) (hw : WordsIn okw w ps) (h1 : ps.length ≤ c) (h2 : c ≤ maxLen) : MsgsAt (fun b => b = g) okw w (.slice (some ⟨g, 0, none⟩) ps.length c) ps :=
  ⟨_, _, rfl, ⟨h1, h2, fun h => by cases h⟩, hw, .inr ⟨g, 0, rfl, rfl, h.lt, fun i hi j hj => by rw [h.cell, Nat.zero_add]; exact flat_get encM_len ps ex i j hi hj⟩⟩
theorem words_set {ok : Nat → Prop} {w : World} {ps : List (Value × Msg)} (h : WordsIn ok w ps) {J : Nat} (hJ : J < ps.length) (n : Int) : WordsIn ok w (ps.set J (ps[J].1, { ps[J].2 with late := n })) := by
  intro p hp
  rcases List.mem_or_eq_of_mem_set hp with h1 | h1
  · exact h p h1
  · subst h1; exact h ps[J] (List.getElem_mem hJ)
theorem idx_mod (n : Int) {L : Nat} (h0 : 0 < L) (h1 : L ≤ 1000) : ∃ J : Nat, J < L ∧ wrap64 ((IntKind.u64.wrap n).tmod (L : Int)) = (J : Int) := by
  rw [IntKind.wrap_u64, Int.tmod_eq_emod_of_nonneg (by omega)]
  have h2 := Int.emod_nonneg (n % 18446744073709551616) (show (L : Int) ≠ 0 by omega)
  have h3 := Int.emod_lt_of_pos (n % 18446744073709551616) (show (0 : Int) < L by omega)
  generalize n % 18446744073709551616 % (L : Int) = r at h2 h3
  exact ⟨r.toNat, by omega, by unfold wrap64; omega⟩
set_option maxHeartbeats 4000000 in
set_option maxRecDepth 100000 in
theorem same_law {w : World} {va vb : Value} (n : Int) {qa qb : List (Value × St)} (ha : StepsAt w va qa) (hb : StepsAt w vb qb) : Calls Try.prog 10 #[va, vb, .int .i64 n] w (LivesPost w) := by
  obtain ⟨aa, ca, rfl⟩ := ha.shape
  obtain ⟨ab, cb, rfl⟩ := hb.shape
  have hla := ha.get.2.1
  have hma := ha.get.2.2.1
  have hlb := hb.get.2.1
  have hmb := hb.get.2.2.1
  replace ha := hid ha
  replace hb := hid hb
  go_enter Try.func10, Try.ntmps10
  go_upto_block 0 with (first | (go_at_call 11; (with_reducible refine (lives_c _).mono ?_); rintro e w1 ⟨rfl, hb1⟩; have hb1 := hid hb1))
  go_cut [9, 7] from 14 to 31 (fun _ v wx => ∃ (vx : Value) (lx : List (Value × Msg)), v = vx ∧ lx.length ≤ 6 ∧ Two encM encM w1.heap.size w1 wx 30 30 5 5 vx (.slice none 0 0) lx [] ∧ WordsIn (fun b => b < w.heap.size) w lx)
  case first =>
    go_wp2
    go_loopg [9, 7] 6 (fun g i uo wr => ∃ (k : Nat) (vx : Value) (lx : List (Value × Msg)), k ≤ 6 ∧ k ≤ qa.length ∧ lx.length ≤ k ∧ g = 6 - k ∧ i = .int .i64 k ∧ vx = uo ∧ Two encM encM w1.heap.size w1 wr 30 30 5 5 vx (.slice none 0 0) lx [] ∧ WordsIn (fun b => b < w.heap.size) w lx)
    case atStart => exact ⟨0, _, [], by omega, by omega, by simp, rfl, rfl, rfl, Two.start _ _ _ _ _ _ (Below.refl _ _) (Nat.le_refl _), WordsIn.nil _ _⟩
    case round =>
      obtain ⟨k, vx, lx, hk6, hkl, hlx, hgk, rfl, rfl, hT, hw⟩ := hrel
      have hbw := hid (Below.next hb1.out hT.below hb1.out.size)
      obtain ⟨⟨ao2, co2, rfl⟩, -⟩ := hT.shapes
      replace hT := hid hT
      by_cases hlt : k < 6 ∧ k < qa.length
      · obtain ⟨h6, hl⟩ := hlt
        obtain ⟨g, o, a, c, rfl, hg, hwi, d0, d1, d2, d3, d4, d5, d6⟩ := StepsAt.atD ha.out hbw.out hl
        generalize qa[k].2 = q at hwi d0 d1 d2 d3 d4 d5 d6
        have hmsg := hid (message_c q (hwi.below hbw.out))
        have hws := hid (hw.snoc (p := (.slice a (cut8 q.m).words.length c, cut8 q.m)) (hwi.cut 8))
        clear hw hwi
        have hki : (k : Int) < 6 := by omega
        have hkl2 : (k : Int) < qa.length := by omega
        go_wp2_with (first | (go_at_call 20; (with_reducible refine (hmsg.out).mono ?_); rintro e w2 ⟨rfl, hb2⟩; have hT2 := hid (hT.out.next hb2); clear hb2) | (at_builtin; (refine Two.wpA elMsg (hT2.out.alloc _) rfl (.tmp 24) (.tmp 30) rfl rfl (y := (.slice a (cut8 q.m).words.length c, cut8 q.m)) rfl (heap_at _ _ _ (by simp)) rfl (by simp [encM, Value.oneCell']) (by omega) (by omega) ?_; intro g' cap' w6 hT6 hz6; have hT6 := hid hT6)))
        go_roundg (6 - (k + 1))
        case rel => exact ⟨k + 1, _, _, by omega, by omega, by simp; omega, rfl, by go_num, rfl, hT6.out, hws.out⟩
        case measure => omega
      · have hlx6 : lx.length ≤ 6 := by omega
        have hstop : (6 : Int) ≤ k ∨ (qa.length : Int) ≤ k := by omega
        have hw := hid hw
        rcases hstop with hs | hs
        all_goals go_wp2
        all_goals go_meet
        all_goals exact ⟨_, _, rfl, hlx6, hT.out, hw.out⟩
  case rest =>
    obtain ⟨vx, lx, rfl, hlx, hT0, hwx⟩ := hcut
    obtain ⟨⟨axo, cxo, rfl⟩, -⟩ := hT0.shapes
    replace hwx := hid hwx
    have hT0 := hid hT0
    go_upto_block 2 with fail
    go_cut [10, 8] from 32 to 49 (fun _ v wy => ∃ (vy : Value) (ly : List (Value × Msg)), v = vy ∧ ly.length ≤ 6 ∧ Two encM encM w1.heap.size w1 wy 30 30 5 5 (.slice axo lx.length cxo) vy lx ly ∧ WordsIn (fun b => b < w.heap.size) w ly)
    case first =>
      go_wp2
      go_loopg [10, 8] 6 (fun g i uo wr => ∃ (k : Nat) (vy : Value) (ly : List (Value × Msg)), k ≤ 6 ∧ k ≤ qb.length ∧ ly.length ≤ k ∧ g = 6 - k ∧ i = .int .i64 k ∧ vy = uo ∧ Two encM encM w1.heap.size w1 wr 30 30 5 5 (.slice axo lx.length cxo) vy lx ly ∧ WordsIn (fun b => b < w.heap.size) w ly)
      case atStart => exact ⟨0, _, [], by omega, by omega, by simp, rfl, rfl, rfl, hT0.out, WordsIn.nil _ _⟩
      case round =>
        clear hT0
        obtain ⟨k, vy, ly, hk6, hkl, hly, hgk, rfl, rfl, hT, hw⟩ := hrel
        have hbw := hid (Below.next hb1.out hT.below hb1.out.size)
        obtain ⟨-, ⟨ao2, co2, rfl⟩⟩ := hT.shapes
        replace hT := hid hT
        by_cases hlt : k < 6 ∧ k < qb.length
        · obtain ⟨h6, hl⟩ := hlt
          obtain ⟨g, o, a, c, rfl, hg, hwi, d0, d1, d2, d3, d4, d5, d6⟩ := StepsAt.atD hb.out hbw.out hl
          generalize qb[k].2 = q at hwi d0 d1 d2 d3 d4 d5 d6
          have hmsg := hid (message_c q (hwi.below hbw.out))
          have hws := hid (hw.snoc (p := (.slice a (cut8 q.m).words.length c, cut8 q.m)) (hwi.cut 8))
          clear hw hwi
          have hki : (k : Int) < 6 := by omega
          have hkl2 : (k : Int) < qb.length := by omega
          go_wp2_with (first | (go_at_call 20; (with_reducible refine (hmsg.out).mono ?_); rintro e w2 ⟨rfl, hb2⟩; have hT2 := hid (hT.out.next hb2); clear hb2) | (at_builtin; (refine Two.wpB elMsg (hT2.out.alloc _) rfl (.tmp 42) (.tmp 48) rfl rfl (y := (.slice a (cut8 q.m).words.length c, cut8 q.m)) rfl (heap_at _ _ _ (by simp)) rfl (by simp [encM, Value.oneCell']) (by omega) (by omega) ?_; intro g' cap' w6 hT6 hz6; have hT6 := hid hT6)))
          go_roundg (6 - (k + 1))
          case rel => exact ⟨k + 1, _, _, by omega, by omega, by simp; omega, rfl, by go_num, rfl, hT6.out, hws.out⟩
          case measure => omega
        · have hly6 : ly.length ≤ 6 := by omega
          have hstop : (6 : Int) ≤ k ∨ (qb.length : Int) ≤ k := by omega
          have hw := hid hw
          rcases hstop with hs | hs
          all_goals go_wp2
          all_goals go_meet
          all_goals exact ⟨_, _, rfl, hly6, hT.out, hw.out⟩
    case rest =>
      clear hT0
      obtain ⟨vy, ly, rfl, hly, hT, hwy⟩ := hcut
      obtain ⟨-, ⟨ayo, cyo, rfl⟩⟩ := hT.shapes
      replace hwy := hid hwy
      have hT := hid hT
      go_upto_region 13 with fail
      have hbw := Below.next hb1.out hT.out.below hb1.out.size
      have hmx := MsgsAt.of_own hT.out.a ((hwx.out.below hbw).mono (fun b h _ => h))
      have hmy := MsgsAt.of_own hT.out.b ((hwy.out.below hbw).mono (fun b h _ => h))
      obtain ⟨vz, w2, hr, hbz, hz0, hz1⟩ := run_clone (ty := 38) (t := 38) elMsg none (hmx.src elMsg.u) (show lx.length ≤ maxLen by unfold maxLen; omega) (by omega)
      have hmx2 := hid ((hmx.mono (ok' := fun b => b < wc.heap.size) (fun b _ h => h) (fun b h _ => h)).below hbz)
      have hmy2 := hid ((hmy.mono (ok' := fun b => b < wc.heap.size) (fun b _ h => h) (fun b h _ => h)).below hbz)
      have hwx2 := hid ((hwx.out.below hbw).below hbz)
      have hbw2 := hid (Below.next hbw hbz hbw.size)
      replace hr := hid hr
      by_cases hx0 : lx.length = 0
      · obtain ⟨rfl, rfl⟩ := hz0 hx0
        have hxe : lx = [] := List.eq_nil_of_length_eq_zero hx0
        have hX := hmx2
        have hY := hmy2
        have hB3 := hbw2
        have hZ := hid (MsgsAt.nil (fun _ => True) (fun _ => True) w2)
        obtain ⟨lz, hlz⟩ : ∃ lz : List (Value × Msg), lz = [] := ⟨_, rfl⟩
        rw [← hlz] at hZ
        replace hlz := hid hlz
        replace hx0 := hid hx0
        clear hxe hz0 hz1 hmx hmy hbw hbz hmx2 hmy2 hwx2 hbw2 hT hwx hwy
        go_upto_region 16 with (at_builtin; (refine wpList_append_run rfl (.tmp 50) (.tmp 51) 38 rfl rfl rfl hr.out ?_))
        generalize Value.slice none 0 0 = vzz at hZ ⊢
        -- REG empennage/empennagelaw10.LaneSame|16|LaneSame.16
        refine region_tab 22 [Sp.eq (.slice axo lx.length cxo), Sp.eq (.slice ayo ly.length cyo), Sp.eq (.bool (sameL (lx.map (·.2)) (ly.map (·.2)))), Sp.eq (.slice axo lx.length cxo), Sp.eq (.slice ayo ly.length cyo), Sp.eq (.bool (sameL (lx.map (·.2)) (ly.map (·.2)))), Sp.eq (.bool true), Sp.eq (.bool true), Sp.eq (.slice axo lx.length cxo), Sp.eq (vzz), Sp.eq (.bool (sameL (lx.map (·.2)) (lz.map (·.2)))), Sp.eq (.slice axo lx.length cxo), Sp.eq (vzz), Sp.eq (.bool (sameL (lx.map (·.2)) (lz.map (·.2)))), Sp.eq (.bool true), Sp.eq (.bool true), Sp.eq (.bool true), Sp.eq (.slice axo lx.length cxo), Sp.eq (.slice axo lx.length cxo), Sp.eq (.bool true), Sp.eq (.bool true), Sp.eq (.bool true)] (fun _ _ _ _ _ h => h) (by kernel_rfl) (by kernel_rfl) ⟨?_, ?_, ?_, ?_, ?_, ?_, ?_, ?_, ?_, ?_, ?_, ?_, ?_, ?_, ?_, ?_, ?_, ?_, ?_, ?_, ?_, ?_, trivial⟩ ?_
        · intro ac gs u hb hg h
          have e7 : ac.tmps[7]?.getD undef = .slice axo lx.length cxo := h.inm 7 rfl rfl
          refine opFree rfl ?_
          exact relMoveT _ rfl e7 (okP hg rfl)
        · intro ac gs u hb hg h
          have e8 : ac.tmps[8]?.getD undef = .slice ayo ly.length cyo := h.inm 8 rfl rfl
          refine opFree rfl ?_
          exact relMoveT _ rfl e8 (okP hg rfl)
        · intro ac gs u hb hg h
          have e67 : ac.tmps[67]?.getD undef = .slice axo lx.length cxo := h.tm 0 67 rfl rfl
          have e68 : ac.tmps[68]?.getD undef = .slice ayo ly.length cyo := h.tm 1 68 rfl rfl
          refine opFree rfl ?_
          refine relCall (f := _) (args := #[.slice axo lx.length cxo, .slice ayo ly.length cyo]) (by simp [go_sem, e67, e68]; rfl) ?_
          refine (La.same_c (hX.out.below hb) (hY.out.below hb)).mono ?_
          rintro e w' ⟨rfl, hb'⟩
          exact ⟨_, rfl, okB hg hb' rfl⟩
        · intro ac gs u hb hg h
          have e7 : ac.tmps[7]?.getD undef = .slice axo lx.length cxo := h.inm 7 rfl rfl
          refine opFree rfl ?_
          exact relMoveT _ rfl e7 (okP hg rfl)
        · intro ac gs u hb hg h
          have e8 : ac.tmps[8]?.getD undef = .slice ayo ly.length cyo := h.inm 8 rfl rfl
          refine opFree rfl ?_
          exact relMoveT _ rfl e8 (okP hg rfl)
        · intro ac gs u hb hg h
          have e70 : ac.tmps[70]?.getD undef = .slice axo lx.length cxo := h.tm 3 70 rfl rfl
          have e71 : ac.tmps[71]?.getD undef = .slice ayo ly.length cyo := h.tm 4 71 rfl rfl
          refine opFree rfl ?_
          refine relCall (f := _) (args := #[.slice axo lx.length cxo, .slice ayo ly.length cyo]) (by simp [go_sem, e70, e71]; rfl) ?_
          refine (R2.same_c (hX.out.below hb) (hY.out.below hb)).mono ?_
          rintro e w' ⟨rfl, hb'⟩
          exact ⟨_, rfl, okB hg hb' rfl⟩
        · intro ac gs u hb hg h
          have e69 : ac.tmps[69]?.getD undef = .bool (sameL (lx.map (·.2)) (ly.map (·.2))) := h.tm 2 69 rfl rfl
          have e72 : ac.tmps[72]?.getD undef = .bool (sameL (lx.map (·.2)) (ly.map (·.2))) := h.tm 5 72 rfl rfl
          refine opFree rfl ?_
          exact relRun (v := .bool true) (w' := u) (by simp [go_sem, e69, e72]) (okP hg rfl)
        · intro ac gs u hb hg h
          have e73 : ac.tmps[73]?.getD undef = .bool true := h.tm 6 73 rfl rfl
          refine opFree rfl ?_
          exact relMoveT _ rfl e73 (okP hg rfl)
        · intro ac gs u hb hg h
          have e74 : ac.tmps[74]?.getD undef = .bool true := h.tm 7 74 rfl rfl
          have e7 : ac.tmps[7]?.getD undef = .slice axo lx.length cxo := h.inm 7 rfl rfl
          refine opWant 7 74 rfl rfl e74 ?_
          exact relMoveT _ rfl e7 (okP hg rfl)
        · intro ac gs u hb hg h
          have e74 : ac.tmps[74]?.getD undef = .bool true := h.tm 7 74 rfl rfl
          have e11 : ac.tmps[11]?.getD undef = vzz := h.inm 11 rfl rfl
          refine opWant 7 74 rfl rfl e74 ?_
          exact relMoveT _ rfl e11 (okP hg rfl)
        · intro ac gs u hb hg h
          have e74 : ac.tmps[74]?.getD undef = .bool true := h.tm 7 74 rfl rfl
          have e75 : ac.tmps[75]?.getD undef = .slice axo lx.length cxo := h.tm 8 75 rfl rfl
          have e76 : ac.tmps[76]?.getD undef = vzz := h.tm 9 76 rfl rfl
          refine opWant 7 74 rfl rfl e74 ?_
          refine relCall (f := _) (args := #[.slice axo lx.length cxo, vzz]) (by simp [go_sem, e74, e75, e76]; rfl) ?_
          refine (La.same_c (hX.out.below hb) (hZ.out.below hb)).mono ?_
          rintro e w' ⟨rfl, hb'⟩
          exact ⟨_, rfl, okB hg hb' rfl⟩
        · intro ac gs u hb hg h
          have e74 : ac.tmps[74]?.getD undef = .bool true := h.tm 7 74 rfl rfl
          have e7 : ac.tmps[7]?.getD undef = .slice axo lx.length cxo := h.inm 7 rfl rfl
          refine opWant 7 74 rfl rfl e74 ?_
          exact relMoveT _ rfl e7 (okP hg rfl)
        · intro ac gs u hb hg h
          have e74 : ac.tmps[74]?.getD undef = .bool true := h.tm 7 74 rfl rfl
          have e11 : ac.tmps[11]?.getD undef = vzz := h.inm 11 rfl rfl
          refine opWant 7 74 rfl rfl e74 ?_
          exact relMoveT _ rfl e11 (okP hg rfl)
        · intro ac gs u hb hg h
          have e74 : ac.tmps[74]?.getD undef = .bool true := h.tm 7 74 rfl rfl
          have e78 : ac.tmps[78]?.getD undef = .slice axo lx.length cxo := h.tm 11 78 rfl rfl
          have e79 : ac.tmps[79]?.getD undef = vzz := h.tm 12 79 rfl rfl
          refine opWant 7 74 rfl rfl e74 ?_
          refine relCall (f := _) (args := #[.slice axo lx.length cxo, vzz]) (by simp [go_sem, e74, e78, e79]; rfl) ?_
          refine (R2.same_c (hX.out.below hb) (hZ.out.below hb)).mono ?_
          rintro e w' ⟨rfl, hb'⟩
          exact ⟨_, rfl, okB hg hb' rfl⟩
        · intro ac gs u hb hg h
          have e74 : ac.tmps[74]?.getD undef = .bool true := h.tm 7 74 rfl rfl
          have e77 : ac.tmps[77]?.getD undef = .bool (sameL (lx.map (·.2)) (lz.map (·.2))) := h.tm 10 77 rfl rfl
          have e80 : ac.tmps[80]?.getD undef = .bool (sameL (lx.map (·.2)) (lz.map (·.2))) := h.tm 13 80 rfl rfl
          refine opWant 7 74 rfl rfl e74 ?_
          exact relRun (v := .bool true) (w' := u) (by simp [go_sem, e74, e77, e80]) (okP hg rfl)
        · intro ac gs u hb hg h
          have e74 : ac.tmps[74]?.getD undef = .bool true := h.tm 7 74 rfl rfl
          have e81 : ac.tmps[81]?.getD undef = .bool true := h.tm 14 81 rfl rfl
          refine opFree rfl ?_
          exact relRun (v := .bool true) (w' := u) (by simp [go_sem, e74, e81]) (okP hg rfl)
        · intro ac gs u hb hg h
          have e82 : ac.tmps[82]?.getD undef = .bool true := h.tm 15 82 rfl rfl
          refine opFree rfl ?_
          exact relMoveT _ rfl e82 (okP hg rfl)
        · intro ac gs u hb hg h
          have e83 : ac.tmps[83]?.getD undef = .bool true := h.tm 16 83 rfl rfl
          have e7 : ac.tmps[7]?.getD undef = .slice axo lx.length cxo := h.inm 7 rfl rfl
          refine opWant 16 83 rfl rfl e83 ?_
          exact relMoveT _ rfl e7 (okP hg rfl)
        · intro ac gs u hb hg h
          have e83 : ac.tmps[83]?.getD undef = .bool true := h.tm 16 83 rfl rfl
          have e7 : ac.tmps[7]?.getD undef = .slice axo lx.length cxo := h.inm 7 rfl rfl
          refine opWant 16 83 rfl rfl e83 ?_
          exact relMoveT _ rfl e7 (okP hg rfl)
        · intro ac gs u hb hg h
          have e83 : ac.tmps[83]?.getD undef = .bool true := h.tm 16 83 rfl rfl
          have e84 : ac.tmps[84]?.getD undef = .slice axo lx.length cxo := h.tm 17 84 rfl rfl
          have e85 : ac.tmps[85]?.getD undef = .slice axo lx.length cxo := h.tm 18 85 rfl rfl
          refine opWant 16 83 rfl rfl e83 ?_
          refine relCall (f := _) (args := #[.slice axo lx.length cxo, .slice axo lx.length cxo]) (by simp [go_sem, e83, e84, e85]; rfl) ?_
          refine (La.same_c (hX.out.below hb) (hX.out.below hb)).mono ?_
          rintro e w' ⟨rfl, hb'⟩
          exact ⟨_, rfl, okB hg hb' (congrArg Value.bool (sameL_self _))⟩
        · intro ac gs u hb hg h
          have e83 : ac.tmps[83]?.getD undef = .bool true := h.tm 16 83 rfl rfl
          have e86 : ac.tmps[86]?.getD undef = .bool true := h.tm 19 86 rfl rfl
          refine opFree rfl ?_
          exact relRun (v := .bool true) (w' := u) (by simp [go_sem, e83, e86]) (okP hg rfl)
        · intro ac gs u hb hg h
          have e87 : ac.tmps[87]?.getD undef = .bool true := h.tm 20 87 rfl rfl
          refine opFree rfl ?_
          exact relAssignT _ rfl e87 (okP hg rfl)
        intro vs gs u hb hg hr
        have r0 : vs 0 = .slice axo lx.length cxo := hr 0 (by decide)
        have r1 : vs 1 = .slice ayo ly.length cyo := hr 1 (by decide)
        have r2 : vs 2 = .bool (sameL (lx.map (·.2)) (ly.map (·.2))) := hr 2 (by decide)
        have r3 : vs 3 = .slice axo lx.length cxo := hr 3 (by decide)
        have r4 : vs 4 = .slice ayo ly.length cyo := hr 4 (by decide)
        have r5 : vs 5 = .bool (sameL (lx.map (·.2)) (ly.map (·.2))) := hr 5 (by decide)
        have r6 : vs 6 = .bool true := hr 6 (by decide)
        have r7 : vs 7 = .bool true := hr 7 (by decide)
        have r8 : vs 8 = .slice axo lx.length cxo := hr 8 (by decide)
        have r9 : vs 9 = vzz := hr 9 (by decide)
        have r10 : vs 10 = .bool (sameL (lx.map (·.2)) (lz.map (·.2))) := hr 10 (by decide)
        have r11 : vs 11 = .slice axo lx.length cxo := hr 11 (by decide)
        have r12 : vs 12 = vzz := hr 12 (by decide)
        have r13 : vs 13 = .bool (sameL (lx.map (·.2)) (lz.map (·.2))) := hr 13 (by decide)
        have r14 : vs 14 = .bool true := hr 14 (by decide)
        have r15 : vs 15 = .bool true := hr 15 (by decide)
        have r16 : vs 16 = .bool true := hr 16 (by decide)
        have r17 : vs 17 = .slice axo lx.length cxo := hr 17 (by decide)
        have r18 : vs 18 = .slice axo lx.length cxo := hr 18 (by decide)
        have r19 : vs 19 = .bool true := hr 19 (by decide)
        have r20 : vs 20 = .bool true := hr 20 (by decide)
        have r21 : vs 21 = .bool true := hr 21 (by decide)
        simp only [List.take_succ_cons, List.take_zero, List.drop_succ_cons, List.drop_zero, putOps, r0, r1, r2, r3, r4, r5, r6, r7, r8, r9, r10, r11, r12, r13, r14, r15, r16, r17, r18, r19, r20, r21]
        simp only [Act.put, List.setIfInBounds_toArray, List.set_cons_succ, List.set_cons_zero]
        clear hr r0 r1 r2 r3 r4 r5 r6 r7 r8 r9 r10 r11 r12 r13 r14 r15 r16 r17 r18 r19 r20 r21
        refine wpList_nil ?_
        -- GER
        have hfin := hid (Below.next hB3.out hb hB3.out.size)
        clear hb hg
        go_wp2
        go_ret
        exact ⟨rfl, hfin.out⟩
      · obtain ⟨gz, cz, ex, rfl, hgz, hpz, hzc, hzm⟩ := own_split (hz1 (by omega)) (by omega)
        have hln : (0 : Int) < lx.length := by omega
        have hlp : lx.length ≤ 6 := hlx
        clear hz0 hz1 hbz hmx hmy hbw
        go_upto_region 15 with (at_builtin; (refine wpList_append_run rfl (.tmp 50) (.tmp 51) 38 rfl rfl rfl hr.out ?_))
        obtain ⟨J, hJl, hJ⟩ := idx_mod n (L := lx.length) (by omega) (by omega)
        have hJi : (J : Int) < lx.length := by omega
        have hat := at5_pts hpz hJl
        obtain ⟨x0, x1, x2, x3, x4, hxl⟩ := hat
        have xf := hpz.frozen (J * 5 + 3)
        go_upto_region 16 with fail
        have hsz : (w2.setCell ⟨gz, J * 5 + 3, none⟩ (.int .i64 n)).heap.size = w2.heap.size := by simp
        have hnb : ∀ b, b ≠ gz → (w2.setCell ⟨gz, J * 5 + 3, none⟩ (.int .i64 n)).heap[b]? = w2.heap[b]? := fun b hb => Below.heap_setCell _ _ _ _ hb
        have hX := hid (hmx2.out.kept (by rw [hsz]; exact Nat.le_refl _) (fun b hb _ => hnb b (fun e => by subst e; rcases hb with hb | hb; exact (by omega); exact (by have := hb1.out.size; have := hT.out.le; omega))))
        have hY := hid (hmy2.out.kept (by rw [hsz]; exact Nat.le_refl _) (fun b hb _ => hnb b (fun e => by subst e; rcases hb with hb | hb; exact (by omega); exact (by have := hb1.out.size; have := hT.out.le; omega))))
        have hB3 := hid (hbw2.out.setCell (p := ⟨gz, J * 5 + 3, none⟩) (show w.heap.size ≤ gz by have := hb1.out.size; have := hT.out.le; omega) (.int .i64 n))
        have hpz' := hpz.set (J * 5 + 3) (.int .i64 n)
        rw [flat_set encM_len lx ex J 3 hJl (by omega) _ (lx[J].1, { lx[J].2 with late := n }) rfl] at hpz'
        have hZ := msgs_of_pts (c := cz) hpz' (words_set (hwx2.out.kept (w' := w2.setCell ⟨gz, J * 5 + 3, none⟩ (.int .i64 n)) (by rw [hsz]; exact Nat.le_refl _) (fun b hb _ => hnb b (fun e => by have := hb1.out.size; have := hT.out.le; omega))) hJl n) (by simpa using hzc) hzm
        rw [List.length_set] at hZ
        generalize lx.set J (lx[J].1, { lx[J].2 with late := n }) = lz at hZ
        generalize w2.setCell ⟨gz, J * 5 + 3, none⟩ (.int .i64 n) = W3 at hX hY hZ hB3 ⊢
        replace hZ := hid hZ
        clear hpz' hpz x0 x1 x2 x3 x4 hxl xf hsz hnb hJ hT hwx hwy hwx2 hmx2 hmy2 hbw2
        generalize Value.slice (some ⟨gz, 0, none⟩) lx.length cz = vzz at hZ ⊢
        -- REG empennage/empennagelaw10.LaneSame|16|LaneSame.16
        refine region_tab 22 [Sp.eq (.slice axo lx.length cxo), Sp.eq (.slice ayo ly.length cyo), Sp.eq (.bool (sameL (lx.map (·.2)) (ly.map (·.2)))), Sp.eq (.slice axo lx.length cxo), Sp.eq (.slice ayo ly.length cyo), Sp.eq (.bool (sameL (lx.map (·.2)) (ly.map (·.2)))), Sp.eq (.bool true), Sp.eq (.bool true), Sp.eq (.slice axo lx.length cxo), Sp.eq (vzz), Sp.eq (.bool (sameL (lx.map (·.2)) (lz.map (·.2)))), Sp.eq (.slice axo lx.length cxo), Sp.eq (vzz), Sp.eq (.bool (sameL (lx.map (·.2)) (lz.map (·.2)))), Sp.eq (.bool true), Sp.eq (.bool true), Sp.eq (.bool true), Sp.eq (.slice axo lx.length cxo), Sp.eq (.slice axo lx.length cxo), Sp.eq (.bool true), Sp.eq (.bool true), Sp.eq (.bool true)] (fun _ _ _ _ _ h => h) (by kernel_rfl) (by kernel_rfl) ⟨?_, ?_, ?_, ?_, ?_, ?_, ?_, ?_, ?_, ?_, ?_, ?_, ?_, ?_, ?_, ?_, ?_, ?_, ?_, ?_, ?_, ?_, trivial⟩ ?_
        · intro ac gs u hb hg h
          have e7 : ac.tmps[7]?.getD undef = .slice axo lx.length cxo := h.inm 7 rfl rfl
          refine opFree rfl ?_
          exact relMoveT _ rfl e7 (okP hg rfl)
        · intro ac gs u hb hg h
          have e8 : ac.tmps[8]?.getD undef = .slice ayo ly.length cyo := h.inm 8 rfl rfl
          refine opFree rfl ?_
          exact relMoveT _ rfl e8 (okP hg rfl)
        · intro ac gs u hb hg h
          have e67 : ac.tmps[67]?.getD undef = .slice axo lx.length cxo := h.tm 0 67 rfl rfl
          have e68 : ac.tmps[68]?.getD undef = .slice ayo ly.length cyo := h.tm 1 68 rfl rfl
          refine opFree rfl ?_
          refine relCall (f := _) (args := #[.slice axo lx.length cxo, .slice ayo ly.length cyo]) (by simp [go_sem, e67, e68]; rfl) ?_
          refine (La.same_c (hX.out.below hb) (hY.out.below hb)).mono ?_
          rintro e w' ⟨rfl, hb'⟩
          exact ⟨_, rfl, okB hg hb' rfl⟩
        · intro ac gs u hb hg h
          have e7 : ac.tmps[7]?.getD undef = .slice axo lx.length cxo := h.inm 7 rfl rfl
          refine opFree rfl ?_
          exact relMoveT _ rfl e7 (okP hg rfl)
        · intro ac gs u hb hg h
          have e8 : ac.tmps[8]?.getD undef = .slice ayo ly.length cyo := h.inm 8 rfl rfl
          refine opFree rfl ?_
          exact relMoveT _ rfl e8 (okP hg rfl)
        · intro ac gs u hb hg h
          have e70 : ac.tmps[70]?.getD undef = .slice axo lx.length cxo := h.tm 3 70 rfl rfl
          have e71 : ac.tmps[71]?.getD undef = .slice ayo ly.length cyo := h.tm 4 71 rfl rfl
          refine opFree rfl ?_
          refine relCall (f := _) (args := #[.slice axo lx.length cxo, .slice ayo ly.length cyo]) (by simp [go_sem, e70, e71]; rfl) ?_
          refine (R2.same_c (hX.out.below hb) (hY.out.below hb)).mono ?_
          rintro e w' ⟨rfl, hb'⟩
          exact ⟨_, rfl, okB hg hb' rfl⟩
        · intro ac gs u hb hg h
          have e69 : ac.tmps[69]?.getD undef = .bool (sameL (lx.map (·.2)) (ly.map (·.2))) := h.tm 2 69 rfl rfl
          have e72 : ac.tmps[72]?.getD undef = .bool (sameL (lx.map (·.2)) (ly.map (·.2))) := h.tm 5 72 rfl rfl
          refine opFree rfl ?_
          exact relRun (v := .bool true) (w' := u) (by simp [go_sem, e69, e72]) (okP hg rfl)
        · intro ac gs u hb hg h
          have e73 : ac.tmps[73]?.getD undef = .bool true := h.tm 6 73 rfl rfl
          refine opFree rfl ?_
          exact relMoveT _ rfl e73 (okP hg rfl)
        · intro ac gs u hb hg h
          have e74 : ac.tmps[74]?.getD undef = .bool true := h.tm 7 74 rfl rfl
          have e7 : ac.tmps[7]?.getD undef = .slice axo lx.length cxo := h.inm 7 rfl rfl
          refine opWant 7 74 rfl rfl e74 ?_
          exact relMoveT _ rfl e7 (okP hg rfl)
        · intro ac gs u hb hg h
          have e74 : ac.tmps[74]?.getD undef = .bool true := h.tm 7 74 rfl rfl
          have e11 : ac.tmps[11]?.getD undef = vzz := h.inm 11 rfl rfl
          refine opWant 7 74 rfl rfl e74 ?_
          exact relMoveT _ rfl e11 (okP hg rfl)
        · intro ac gs u hb hg h
          have e74 : ac.tmps[74]?.getD undef = .bool true := h.tm 7 74 rfl rfl
          have e75 : ac.tmps[75]?.getD undef = .slice axo lx.length cxo := h.tm 8 75 rfl rfl
          have e76 : ac.tmps[76]?.getD undef = vzz := h.tm 9 76 rfl rfl
          refine opWant 7 74 rfl rfl e74 ?_
          refine relCall (f := _) (args := #[.slice axo lx.length cxo, vzz]) (by simp [go_sem, e74, e75, e76]; rfl) ?_
          refine (La.same_c (hX.out.below hb) (hZ.out.below hb)).mono ?_
          rintro e w' ⟨rfl, hb'⟩
          exact ⟨_, rfl, okB hg hb' rfl⟩
        · intro ac gs u hb hg h
          have e74 : ac.tmps[74]?.getD undef = .bool true := h.tm 7 74 rfl rfl
          have e7 : ac.tmps[7]?.getD undef = .slice axo lx.length cxo := h.inm 7 rfl rfl
          refine opWant 7 74 rfl rfl e74 ?_
          exact relMoveT _ rfl e7 (okP hg rfl)
        · intro ac gs u hb hg h
          have e74 : ac.tmps[74]?.getD undef = .bool true := h.tm 7 74 rfl rfl
          have e11 : ac.tmps[11]?.getD undef = vzz := h.inm 11 rfl rfl
          refine opWant 7 74 rfl rfl e74 ?_
          exact relMoveT _ rfl e11 (okP hg rfl)
        · intro ac gs u hb hg h
          have e74 : ac.tmps[74]?.getD undef = .bool true := h.tm 7 74 rfl rfl
          have e78 : ac.tmps[78]?.getD undef = .slice axo lx.length cxo := h.tm 11 78 rfl rfl
          have e79 : ac.tmps[79]?.getD undef = vzz := h.tm 12 79 rfl rfl
          refine opWant 7 74 rfl rfl e74 ?_
          refine relCall (f := _) (args := #[.slice axo lx.length cxo, vzz]) (by simp [go_sem, e74, e78, e79]; rfl) ?_
          refine (R2.same_c (hX.out.below hb) (hZ.out.below hb)).mono ?_
          rintro e w' ⟨rfl, hb'⟩
          exact ⟨_, rfl, okB hg hb' rfl⟩
        · intro ac gs u hb hg h
          have e74 : ac.tmps[74]?.getD undef = .bool true := h.tm 7 74 rfl rfl
          have e77 : ac.tmps[77]?.getD undef = .bool (sameL (lx.map (·.2)) (lz.map (·.2))) := h.tm 10 77 rfl rfl
          have e80 : ac.tmps[80]?.getD undef = .bool (sameL (lx.map (·.2)) (lz.map (·.2))) := h.tm 13 80 rfl rfl
          refine opWant 7 74 rfl rfl e74 ?_
          exact relRun (v := .bool true) (w' := u) (by simp [go_sem, e74, e77, e80]) (okP hg rfl)
        · intro ac gs u hb hg h
          have e74 : ac.tmps[74]?.getD undef = .bool true := h.tm 7 74 rfl rfl
          have e81 : ac.tmps[81]?.getD undef = .bool true := h.tm 14 81 rfl rfl
          refine opFree rfl ?_
          exact relRun (v := .bool true) (w' := u) (by simp [go_sem, e74, e81]) (okP hg rfl)
        · intro ac gs u hb hg h
          have e82 : ac.tmps[82]?.getD undef = .bool true := h.tm 15 82 rfl rfl
          refine opFree rfl ?_
          exact relMoveT _ rfl e82 (okP hg rfl)
        · intro ac gs u hb hg h
          have e83 : ac.tmps[83]?.getD undef = .bool true := h.tm 16 83 rfl rfl
          have e7 : ac.tmps[7]?.getD undef = .slice axo lx.length cxo := h.inm 7 rfl rfl
          refine opWant 16 83 rfl rfl e83 ?_
          exact relMoveT _ rfl e7 (okP hg rfl)
        · intro ac gs u hb hg h
          have e83 : ac.tmps[83]?.getD undef = .bool true := h.tm 16 83 rfl rfl
          have e7 : ac.tmps[7]?.getD undef = .slice axo lx.length cxo := h.inm 7 rfl rfl
          refine opWant 16 83 rfl rfl e83 ?_
          exact relMoveT _ rfl e7 (okP hg rfl)
        · intro ac gs u hb hg h
          have e83 : ac.tmps[83]?.getD undef = .bool true := h.tm 16 83 rfl rfl
          have e84 : ac.tmps[84]?.getD undef = .slice axo lx.length cxo := h.tm 17 84 rfl rfl
          have e85 : ac.tmps[85]?.getD undef = .slice axo lx.length cxo := h.tm 18 85 rfl rfl
          refine opWant 16 83 rfl rfl e83 ?_
          refine relCall (f := _) (args := #[.slice axo lx.length cxo, .slice axo lx.length cxo]) (by simp [go_sem, e83, e84, e85]; rfl) ?_
          refine (La.same_c (hX.out.below hb) (hX.out.below hb)).mono ?_
          rintro e w' ⟨rfl, hb'⟩
          exact ⟨_, rfl, okB hg hb' (congrArg Value.bool (sameL_self _))⟩
        · intro ac gs u hb hg h
          have e83 : ac.tmps[83]?.getD undef = .bool true := h.tm 16 83 rfl rfl
          have e86 : ac.tmps[86]?.getD undef = .bool true := h.tm 19 86 rfl rfl
          refine opFree rfl ?_
          exact relRun (v := .bool true) (w' := u) (by simp [go_sem, e83, e86]) (okP hg rfl)
        · intro ac gs u hb hg h
          have e87 : ac.tmps[87]?.getD undef = .bool true := h.tm 20 87 rfl rfl
          refine opFree rfl ?_
          exact relAssignT _ rfl e87 (okP hg rfl)
        intro vs gs u hb hg hr
        have r0 : vs 0 = .slice axo lx.length cxo := hr 0 (by decide)
        have r1 : vs 1 = .slice ayo ly.length cyo := hr 1 (by decide)
        have r2 : vs 2 = .bool (sameL (lx.map (·.2)) (ly.map (·.2))) := hr 2 (by decide)
        have r3 : vs 3 = .slice axo lx.length cxo := hr 3 (by decide)
        have r4 : vs 4 = .slice ayo ly.length cyo := hr 4 (by decide)
        have r5 : vs 5 = .bool (sameL (lx.map (·.2)) (ly.map (·.2))) := hr 5 (by decide)
        have r6 : vs 6 = .bool true := hr 6 (by decide)
        have r7 : vs 7 = .bool true := hr 7 (by decide)
        have r8 : vs 8 = .slice axo lx.length cxo := hr 8 (by decide)
        have r9 : vs 9 = vzz := hr 9 (by decide)
        have r10 : vs 10 = .bool (sameL (lx.map (·.2)) (lz.map (·.2))) := hr 10 (by decide)
        have r11 : vs 11 = .slice axo lx.length cxo := hr 11 (by decide)
        have r12 : vs 12 = vzz := hr 12 (by decide)
        have r13 : vs 13 = .bool (sameL (lx.map (·.2)) (lz.map (·.2))) := hr 13 (by decide)
        have r14 : vs 14 = .bool true := hr 14 (by decide)
        have r15 : vs 15 = .bool true := hr 15 (by decide)
        have r16 : vs 16 = .bool true := hr 16 (by decide)
        have r17 : vs 17 = .slice axo lx.length cxo := hr 17 (by decide)
        have r18 : vs 18 = .slice axo lx.length cxo := hr 18 (by decide)
        have r19 : vs 19 = .bool true := hr 19 (by decide)
        have r20 : vs 20 = .bool true := hr 20 (by decide)
        have r21 : vs 21 = .bool true := hr 21 (by decide)
        simp only [List.take_succ_cons, List.take_zero, List.drop_succ_cons, List.drop_zero, putOps, r0, r1, r2, r3, r4, r5, r6, r7, r8, r9, r10, r11, r12, r13, r14, r15, r16, r17, r18, r19, r20, r21]
        simp only [Act.put, List.setIfInBounds_toArray, List.set_cons_succ, List.set_cons_zero]
        clear hr r0 r1 r2 r3 r4 r5 r6 r7 r8 r9 r10 r11 r12 r13 r14 r15 r16 r17 r18 r19 r20 r21
        refine wpList_nil ?_
        -- GER
        have hfin := hid (Below.next hB3.out hb hB3.out.size)
        clear hb hg
        go_wp2
        go_ret
        exact ⟨rfl, hfin.out⟩
end Go.Proofs.Ytbbhhjoohfkanaa.La
