/- DERIVED. The walk over the statement LaneOthers: lanes stand apart. -/
import Derived.Test.YtbbhhjoohfkanaaLaneI
namespace Go.Proofs.Ytbbhhjoohfkanaa.La
set_option linter.unusedVariables false
set_option linter.unusedSimpArgs false
open Go.RowKit Go.Proofs.Ytbbhhjoohfkanaa.K Go.Proofs.Ytbbhhjoohfkanaa.Sp Go.Proofs.Ytbbhhjoohfkanaa.Lb Go.Proofs.Ytbbhhjoohfkanaa.So
theorem _root_.Go.Proofs.Ytbbhhjoohfkanaa.K.Wd.setCell {base : Nat} {w0 w : World} {M : Nat → Prop} (h : Wd base w0 w M) {b o : Nat} (hb : base ≤ b) (v : Value) : Wd base w0 (w.setCell ⟨b, o, none⟩ v) M :=
  ⟨h.below.setCell hb v, h.ge, fun c hc => by have := h.lt c hc; simpa using this, by have := h.le; simpa using this⟩
theorem LanesM.setCell {w : World} {M : Nat → Prop} {lb : Nat} {ln pl : Int} {ms : List Msg} (h : LanesM w M lb ln pl ms) {b o : Nat} (hb : ¬ M b) (v : Value) : LanesM (w.setCell ⟨b, o, none⟩ v) M lb ln pl ms :=
  h.kept (by simp) (fun c hc _ => Below.heap_setCell _ _ _ _ (fun e => hb (by have e : c = b := e; rw [← e]; exact hc)))
theorem mod30 (x : Int) : ∃ N : Nat, wrap64 ((IntKind.u64.wrap x).tmod 30) = N ∧ N < 30 := by
  have h : 0 ≤ wrap64 ((IntKind.u64.wrap x).tmod 30) ∧ wrap64 ((IntKind.u64.wrap x).tmod 30) < 30 := by
    rw [IntKind.wrap_u64, Int.tmod_eq_emod_of_nonneg (by omega)]; unfold wrap64; omega
  exact ⟨(wrap64 ((IntKind.u64.wrap x).tmod 30)).toNat, by omega, by omega⟩
/-- The rooms that were, as far as they are noted. -/
def wasL (r0 r1 r2 : Int) (k : Nat) : List Value := [.int .i64 (if 0 < k then r0 else 0), .int .i64 (if 1 < k then r1 else 0), .int .i64 (if 2 < k then r2 else 0)]
theorem room_add (ln pl : Int) (ms : List Msg) (m : Msg) (k : Int) (hi : isT ln m.lane = true) : roomT ln pl (ms ++ [m]) k = roomT ln pl ms k - (if k = m.lane then 1 else 0) := by
  unfold roomT ofM
  rw [List.filter_append, List.length_append]
  by_cases hk : k = m.lane
  · subst hk; rw [if_pos hi, if_pos hi, if_pos rfl]; simp; omega
  · have : ¬ m.lane = k := fun e => hk e.symm
    simp [hk, this]
theorem room_ge {ln pl : Int} {ms : List Msg} (h : LInv ln pl ms) (k : Int) : 0 ≤ roomT ln pl ms k ∧ roomT ln pl ms k ≤ 8 := by
  have := h.few k
  have := h.p
  unfold roomT ofM
  split <;> omega
theorem ln3 : lnT 3 = 3 := by decide
set_option maxHeartbeats 4000000 in
set_option maxRecDepth 100000 in
theorem others_c {w : World} {a : Option Addr} {c : Nat} {m : Msg} (places n : Int) : Calls Try.prog 5 #[.int .i64 places, .agg #[.slice a m.words.length c, .int .i64 m.lane, .int .i64 m.stamp, .int .i64 m.late, .int .i64 m.seq], .int .i64 n] w (LivesPost w) := by
  have hbA := hid ((Below.refl w.heap.size w).alloc (Nat.le_refl _) (.cells #[.slice a m.words.length c, .int .i64 m.lane, .int .i64 m.stamp, .int .i64 m.late, .int .i64 m.seq] 30))
  have hpA := hid (pts.newA w #[.slice a m.words.length c, .int .i64 m.lane, .int .i64 m.stamp, .int .i64 m.late, .int .i64 m.seq] 30)
  have h3 := hid ln3
  obtain ⟨N, hN, hN30⟩ := mod30 n
  go_enter Try.func5, Try.ntmps5
  go_wp2_with (first | (go_at_call 11; (with_reducible refine (lives_c _).mono ?_); rintro e w1 ⟨rfl, hb⟩; have hp1 := hid (hpA.out.below hb); have hb1 := hid (Below.next hbA.out hb (by simp)); clear hb) | (go_at_call 12; (with_reducible refine (new_c _ 3 places).mono ?_); rintro e w2 ⟨lb, rfl, hL, hb⟩; rw [h3.out] at hL; have hL2 := hid hL; have hp2 := hid (hp1.out.below hb); have hn2 := hid (show ¬ (w1.heap.size ≤ w.heap.size ∧ w.heap.size < w2.heap.size) from fun h => by have := hp1.out.lt; omega); have hW2 := hid (show Wd w.heap.size w w2 (fun b => w1.heap.size ≤ b ∧ b < w2.heap.size) from ⟨Below.next hb1.out hb hb1.out.size, fun b h => Nat.le_trans hb1.out.size h.1, fun b h => h.2, Nat.le_trans hb1.out.size hb.size⟩); clear hL hb))
  generalize hM2 : (fun b => w1.heap.size ≤ b ∧ b < w2.heap.size) = M2 at hL2 hW2
  have hn2' : ¬ M2 w.heap.size := by rw [← hM2]; exact hn2.out
  clear hM2 hn2 hp1 hb1 hpA hbA
  go_loopg [8] N (fun g i wr => ∃ (k : Nat) (ms : List Msg) (M : Nat → Prop), k ≤ N ∧ g = N - k ∧ i = .int .i64 k ∧ LanesM wr M lb 3 (plT places) ms ∧ Wd w.heap.size w wr M ∧ ¬ M w.heap.size ∧ pts wr w.heap.size [.slice a m.words.length c, .int .i64 m.lane, .int .i64 m.stamp, .int .i64 m.late, .int .i64 m.seq] 30)
  case atStart => exact ⟨0, [], M2, Nat.zero_le _, rfl, rfl, hL2.out, hW2.out, hn2', hp2.out⟩
  case round =>
    clear hL2 hW2 hn2' hp2
    obtain ⟨k, ms, M, hk, hgk, rfl, hL, hW, hnM, hp⟩ := hrel
    by_cases hlt : k < N
    · replace hL := hid hL
      replace hW := hid hW
      replace hp := hid hp
      go_wp2_with (first | (go_at_call 16; (with_reducible refine (putLit hL.out _ _ _ _).mono ?_); rintro e w5 ⟨rfl, hL5, hC5⟩; have hW5 := hid (hW.out.chg hC5); have hp5 := hid (hp.out.chg hC5 hnM); have hn5 := hid (show ¬ grow M wr w5 w.heap.size from fun h => by rcases h with h | h; exact hnM h; exact (by have := hp.out.lt; omega)); replace hL5 := hid hL5; clear hC5))
      go_roundg (N - (k + 1))
      case rel => exact ⟨k + 1, _, _, by omega, rfl, by go_num, hL5.out, hW5.out, hn5.out, hp5.out⟩
      case measure => omega
    · obtain rfl : k = N := by omega
      have y0 := hp.cell 0
      have y1 := hp.cell 1
      have y2 := hp.cell 2
      have y3 := hp.cell 3
      have y4 := hp.cell 4
      have yl := hp.lt
      have fz := fun o => hp.frozen o
      simp only [List.getElem?_cons_zero, List.getElem?_cons_succ] at y0 y1 y2 y3 y4
      obtain ⟨A, hA, hA1⟩ : ∃ A, wrap64 ((IntKind.u64.wrap m.lane).tmod 3) = A ∧ 0 ≤ A ∧ A < 3 := ⟨_, rfl, mod3 _⟩
      have hp2 := hid (show pts ((wr.setCell ⟨w.heap.size, 0, none⟩ (.slice none 0 0)).setCell ⟨w.heap.size, 1, none⟩ (.int .i64 A)) w.heap.size [.slice none 0 0, .int .i64 A, .int .i64 m.stamp, .int .i64 m.late, .int .i64 m.seq] 30 by have := (hp.set 0 (.slice none 0 0)).set 1 (.int .i64 A); simpa using this)
      have hL2 := hid ((hL.setCell (o := 0) hnM (.slice none 0 0)).setCell (o := 1) hnM (.int .i64 A))
      have hW2 := hid ((hW.setCell (o := 0) (Nat.le_refl _) (.slice none 0 0)).setCell (o := 1) (Nat.le_refl _) (.int .i64 A))
      clear hL hW hp
      go_upto_region 12 with fail
      have hbB := (Below.refl ((wr.setCell ⟨w.heap.size, 0, none⟩ (.slice none 0 0)).setCell ⟨w.heap.size, 1, none⟩ (.int .i64 A)).heap.size ((wr.setCell ⟨w.heap.size, 0, none⟩ (.slice none 0 0)).setCell ⟨w.heap.size, 1, none⟩ (.int .i64 A))).alloc (Nat.le_refl _) (.cells #[.int .i64 0, .int .i64 0, .int .i64 0] 26)
      have haB := hid (pts.newA ((wr.setCell ⟨w.heap.size, 0, none⟩ (.slice none 0 0)).setCell ⟨w.heap.size, 1, none⟩ (.int .i64 A)) #[.int .i64 0, .int .i64 0, .int .i64 0] 26)
      have hLB := hid (hL2.out.below hbB)
      have hWB := hid (hW2.out.next hbB)
      have hpB := hid (hp2.out.below hbB)
      have hzz : ((wr.setCell ⟨w.heap.size, 0, none⟩ (.slice none 0 0)).setCell ⟨w.heap.size, 1, none⟩ (.int .i64 A)).heap.size = wr.heap.size := by simp
      rw [hzz] at haB
      have hnab : ¬ M wr.heap.size := fun h => by have := hL2.out.lt _ h; rw [hzz] at this; omega
      have hab : w.heap.size ≤ wr.heap.size := by have := hW2.out.le; rw [hzz] at this; exact this
      have hne : w.heap.size ≠ wr.heap.size := by omega
      rw [hA]
      try rw [hN]
      clear hN
      clear hA y0 y1 y2 y3 y4 yl fz hL2 hW2 hp2 hbB hzz
      generalize (((wr.setCell ⟨w.heap.size, 0, none⟩ (.slice none 0 0)).setCell ⟨w.heap.size, 1, none⟩ (.int .i64 A)).alloc (.cells #[.int .i64 0, .int .i64 0, .int .i64 0] 26)) = W at haB hLB hWB hpB ⊢
      generalize wr.heap.size = ab at haB hnab hab hne ⊢
      have hR0 := room_ge hLB.out.inv 0
      have hR1 := room_ge hLB.out.inv 1
      have hR2 := room_ge hLB.out.inv 2
      go_loopg [10] 3 (fun g i wr => ∃ (k : Nat), k ≤ 3 ∧ g = 3 - k ∧ i = .int .i64 k ∧ LanesM wr M lb 3 (plT places) ms ∧ Wd w.heap.size w wr M ∧ pts wr w.heap.size [.slice none 0 0, .int .i64 A, .int .i64 m.stamp, .int .i64 m.late, .int .i64 m.seq] 30 ∧ pts wr ab (wasL (roomT 3 (plT places) ms 0) (roomT 3 (plT places) ms 1) (roomT 3 (plT places) ms 2) k) 26)
      case atStart => exact ⟨0, by omega, rfl, rfl, hLB.out, hWB.out, hpB.out, haB.out⟩
      case round =>
        obtain ⟨k, hk, hgk, rfl, hL, hW, hp, ha⟩ := hrel
        clear hLB hWB hpB haB
        replace hL := hid hL
        replace hW := hid hW
        replace hp := hid hp
        have hk3 : k = 0 ∨ k = 1 ∨ k = 2 ∨ k = 3 := by omega
        rcases hk3 with rfl | rfl | rfl | rfl
        all_goals simp [wasL] at ha
        all_goals replace ha := hid ha
        · have hRk := hid (fun (w : World) (h : LanesM w M lb 3 (plT places) ms) => room_c h 0)
          unfold RoomPost at hRk
          go_wp2_with (first | (go_at_call 15; (with_reducible refine (hRk.out _ hL.out).mono ?_); rintro e w4 ⟨rfl, hb4⟩; have hp4 := hp.out.below hb4; have ha4 := ha.out.below hb4; have y0 := ha4.cell 0; have y1 := ha4.cell 1; have y2 := ha4.cell 2; have yl := ha4.lt; have fz := fun o => ha4.frozen o; simp only [List.getElem?_cons_zero, List.getElem?_cons_succ] at y0 y1 y2; have hL4 := hid ((hL.out.below hb4).kept (w' := w4.setCell ⟨ab, 0, none⟩ (.int .i64 (roomT 3 (plT places) ms 0))) (by simp) (fun b hb hlt => Below.heap_setCell _ _ _ _ (fun e => hnab (by have e : b = ab := e; rw [← e]; exact hb)))); have hW4 := hid ((hW.out.next hb4).setCell hab (.int .i64 (roomT 3 (plT places) ms 0)) (o := 0)); have hp5 := hid (hp4.set_ne (a := ⟨ab, 0, none⟩) hne (.int .i64 (roomT 3 (plT places) ms 0))); have ha5 := hid (ha4.set 0 (.int .i64 (roomT 3 (plT places) ms 0))); clear hp4 ha4 hb4))
          go_roundg (3 - (0 + 1))
          case rel => exact ⟨0 + 1, by omega, rfl, rfl, hL4.out, hW4.out, hp5.out, by have := ha5.out; simpa [wasL] using this⟩
          case measure => omega
        · have hRk := hid (fun (w : World) (h : LanesM w M lb 3 (plT places) ms) => room_c h 1)
          unfold RoomPost at hRk
          go_wp2_with (first | (go_at_call 15; (with_reducible refine (hRk.out _ hL.out).mono ?_); rintro e w4 ⟨rfl, hb4⟩; have hp4 := hp.out.below hb4; have ha4 := ha.out.below hb4; have y0 := ha4.cell 0; have y1 := ha4.cell 1; have y2 := ha4.cell 2; have yl := ha4.lt; have fz := fun o => ha4.frozen o; simp only [List.getElem?_cons_zero, List.getElem?_cons_succ] at y0 y1 y2; have hL4 := hid ((hL.out.below hb4).kept (w' := w4.setCell ⟨ab, 1, none⟩ (.int .i64 (roomT 3 (plT places) ms 1))) (by simp) (fun b hb hlt => Below.heap_setCell _ _ _ _ (fun e => hnab (by have e : b = ab := e; rw [← e]; exact hb)))); have hW4 := hid ((hW.out.next hb4).setCell hab (.int .i64 (roomT 3 (plT places) ms 1)) (o := 1)); have hp5 := hid (hp4.set_ne (a := ⟨ab, 1, none⟩) hne (.int .i64 (roomT 3 (plT places) ms 1))); have ha5 := hid (ha4.set 1 (.int .i64 (roomT 3 (plT places) ms 1))); clear hp4 ha4 hb4))
          go_roundg (3 - (1 + 1))
          case rel => exact ⟨1 + 1, by omega, rfl, rfl, hL4.out, hW4.out, hp5.out, by have := ha5.out; simpa [wasL] using this⟩
          case measure => omega
        · have hRk := hid (fun (w : World) (h : LanesM w M lb 3 (plT places) ms) => room_c h 2)
          unfold RoomPost at hRk
          go_wp2_with (first | (go_at_call 15; (with_reducible refine (hRk.out _ hL.out).mono ?_); rintro e w4 ⟨rfl, hb4⟩; have hp4 := hp.out.below hb4; have ha4 := ha.out.below hb4; have y0 := ha4.cell 0; have y1 := ha4.cell 1; have y2 := ha4.cell 2; have yl := ha4.lt; have fz := fun o => ha4.frozen o; simp only [List.getElem?_cons_zero, List.getElem?_cons_succ] at y0 y1 y2; have hL4 := hid ((hL.out.below hb4).kept (w' := w4.setCell ⟨ab, 2, none⟩ (.int .i64 (roomT 3 (plT places) ms 2))) (by simp) (fun b hb hlt => Below.heap_setCell _ _ _ _ (fun e => hnab (by have e : b = ab := e; rw [← e]; exact hb)))); have hW4 := hid ((hW.out.next hb4).setCell hab (.int .i64 (roomT 3 (plT places) ms 2)) (o := 2)); have hp5 := hid (hp4.set_ne (a := ⟨ab, 2, none⟩) hne (.int .i64 (roomT 3 (plT places) ms 2))); have ha5 := hid (ha4.set 2 (.int .i64 (roomT 3 (plT places) ms 2))); clear hp4 ha4 hb4))
          go_roundg (3 - (2 + 1))
          case rel => exact ⟨2 + 1, by omega, rfl, rfl, hL4.out, hW4.out, hp5.out, by have := ha5.out; simpa [wasL] using this⟩
          case measure => omega
        · replace ha := ha.out
          have hW := hW.out
          have hL := hL.out
          have hp := hp.out
          have hpc := put_cases hL.inv ⟨[], A, 0, 0, 0⟩
          have hpc' := put_cases hL.inv ⟨[], A, m.stamp, m.late, m.seq⟩
          have hrs := fun k => room_add 3 (plT places) ms ⟨[], A, m.stamp, m.late, m.seq⟩ k (by unfold isT; simp; omega)
          have hpt := putLit hL A m.stamp m.late m.seq
          have hi3 : isT 3 A = true := by unfold isT; simp; omega
          unfold PutPost at hpt
          simp only at hpc' hrs
          have hrg := room_ge hL.inv A
          clear hpc
          have hL' := hid hL
          have y0 := hp.cell 0
          have y1 := hp.cell 1
          have y2 := hp.cell 2
          have y3 := hp.cell 3
          have y4 := hp.cell 4
          have yl := hp.lt
          simp only [List.getElem?_cons_zero, List.getElem?_cons_succ] at y0 y1 y2 y3 y4
          have hmsE : ∃ (E : Int) (ms' : List Msg), putE 3 (plT places) ms ⟨[], A, m.stamp, m.late, m.seq⟩ = E ∧ putL 3 (plT places) ms ⟨[], A, m.stamp, m.late, m.seq⟩ = ms' := ⟨_, _, rfl, rfl⟩
          obtain ⟨E, ms', hE1, hE2⟩ := hmsE
          rw [hE1, hE2] at hpc'
          rw [hE1, hE2] at hpt
          clear hE1 hE2
          have hfacts : (E = 0 ∧ 0 < roomT 3 (plT places) ms A ∧ ∀ k, roomT 3 (plT places) ms' k = roomT 3 (plT places) ms k - (if k = A then 1 else 0)) ∨ (E ≠ 0 ∧ roomT 3 (plT places) ms A = 0 ∧ ∀ k, roomT 3 (plT places) ms' k = roomT 3 (plT places) ms k) := by
            rcases hpc' with ⟨h1, h2, h3⟩ | ⟨h1, h2, h3⟩
            · exact .inl ⟨h2, h1, fun k => by rw [h3, hrs]⟩
            · exact .inr ⟨by rcases h2 with h2 | h2 <;> omega, h1, fun k => by rw [h3]⟩
          replace hpt := hid hpt
          replace hp := hid hp
          replace ha := hid ha
          replace hW := hid hW
          clear hrs hpc' hL
          go_upto_region 16 with (first | (go_at_call 16; (with_reducible refine (hpt.out).mono ?_); rintro e w5 ⟨rfl, hL5, hC5⟩; have hW5 := hid (hW.out.chg hC5); have hp5 := hid (hp.out.chg hC5 hnM); have ha5 := hid (ha.out.chg hC5 hnab); replace hL5 := hid hL5; clear hC5))
          obtain ⟨wr0, rfl⟩ : ∃ x, x = wr := ⟨_, rfl⟩
          go_wp2
          go_loopg [12, 13] 3 (fun g i s13 wr => ∃ (k : Nat), k ≤ 3 ∧ g = 3 - k ∧ i = .int .i64 k ∧ Below w5.heap.size w5 wr)
          case atStart => exact ⟨0, by omega, rfl, rfl, Below.refl _ _⟩
          case round =>
            obtain ⟨k, hk, hgk, rfl, hb6⟩ := hrel
            have ha6 := ha5.out.below hb6
            have hp6 := hp5.out.below hb6
            have y0 := ha6.cell 0
            have y1 := ha6.cell 1
            have y2 := ha6.cell 2
            have yl := ha6.lt
            have z1 := hp6.cell 1
            have zl := hp6.lt
            simp only [List.getElem?_cons_zero, List.getElem?_cons_succ] at y0 y1 y2 z1
            have hL6 := hid (hL5.out.below hb6)
            have hW6 := hid (hW5.out.next hb6)
            have hp6 := hid hp6
            have ha6 := hid ha6
            replace hb6 := hid hb6
            have hk3 : k = 0 ∨ k = 1 ∨ k = 2 ∨ k = 3 := by omega
            rcases hk3 with rfl | rfl | rfl | rfl
            · have hRk := hid (fun (w : World) (h : LanesM w (grow M wr0 w5) lb 3 (plT places) ms') => room_c h 0)
              unfold RoomPost at hRk
              by_cases hAk : A = 0
              · subst hAk
                rcases hfacts with ⟨rfl, hf1, hf2⟩ | ⟨hE, hf1, hf2⟩
                · have e := hid (show roomT 3 (plT places) ms' 0 = roomT 3 (plT places) ms 0 - 1 by rw [hf2]; simp)
                  clear hf2
                  go_wp2_with (first | (go_at_call 15; (with_reducible refine (hRk.out _ hL6.out).mono ?_); rw [e.out]; rintro e' w7 ⟨rfl, hb7⟩; replace hb7 := hid (Below.next hb6.out hb7 hb6.out.size)))
                  go_roundg (3 - (0 + 1))
                  case rel => exact ⟨0 + 1, by omega, rfl, rfl, hb7.out⟩
                  case measure => omega
                · have e := hid (hf2 0)
                  have hEb : (E == 0) = false := by simpa using hE
                  replace hE := hid hE
                  clear hf2
                  go_wp2_with (first | (go_at_call 15; (with_reducible refine (hRk.out _ hL6.out).mono ?_); rw [e.out]; rintro e' w7 ⟨rfl, hb7⟩; replace hb7 := hid (Below.next hb6.out hb7 hb6.out.size)))
                  go_roundg (3 - (0 + 1))
                  case rel => exact ⟨0 + 1, by omega, rfl, rfl, hb7.out⟩
                  case measure => omega
              · have e : Hid (roomT 3 (plT places) ms' 0 = roomT 3 (plT places) ms 0) := hid (by
                  rcases hfacts with ⟨_, _, hf2⟩ | ⟨_, _, hf2⟩
                  · rw [hf2, if_neg (fun e => hAk e.symm)]; omega
                  · rw [hf2])
                have hAb : ((0 : Int) == A) = false := by rw [beq_eq_false_iff_ne]; exact fun e => hAk e.symm
                replace hAk := hid hAk
                replace hfacts := hid hfacts
                go_wp2_with (first | (go_at_call 15; (with_reducible refine (hRk.out _ hL6.out).mono ?_); rw [e.out]; rintro e' w7 ⟨rfl, hb7⟩; replace hb7 := hid (Below.next hb6.out hb7 hb6.out.size)))
                go_roundg (3 - (0 + 1))
                case rel => exact ⟨0 + 1, by omega, rfl, rfl, hb7.out⟩
                case measure => omega
            · have hRk := hid (fun (w : World) (h : LanesM w (grow M wr0 w5) lb 3 (plT places) ms') => room_c h 1)
              unfold RoomPost at hRk
              by_cases hAk : A = 1
              · subst hAk
                rcases hfacts with ⟨rfl, hf1, hf2⟩ | ⟨hE, hf1, hf2⟩
                · have e := hid (show roomT 3 (plT places) ms' 1 = roomT 3 (plT places) ms 1 - 1 by rw [hf2]; simp)
                  clear hf2
                  go_wp2_with (first | (go_at_call 15; (with_reducible refine (hRk.out _ hL6.out).mono ?_); rw [e.out]; rintro e' w7 ⟨rfl, hb7⟩; replace hb7 := hid (Below.next hb6.out hb7 hb6.out.size)))
                  go_roundg (3 - (1 + 1))
                  case rel => exact ⟨1 + 1, by omega, rfl, rfl, hb7.out⟩
                  case measure => omega
                · have e := hid (hf2 1)
                  have hEb : (E == 0) = false := by simpa using hE
                  replace hE := hid hE
                  clear hf2
                  go_wp2_with (first | (go_at_call 15; (with_reducible refine (hRk.out _ hL6.out).mono ?_); rw [e.out]; rintro e' w7 ⟨rfl, hb7⟩; replace hb7 := hid (Below.next hb6.out hb7 hb6.out.size)))
                  go_roundg (3 - (1 + 1))
                  case rel => exact ⟨1 + 1, by omega, rfl, rfl, hb7.out⟩
                  case measure => omega
              · have e : Hid (roomT 3 (plT places) ms' 1 = roomT 3 (plT places) ms 1) := hid (by
                  rcases hfacts with ⟨_, _, hf2⟩ | ⟨_, _, hf2⟩
                  · rw [hf2, if_neg (fun e => hAk e.symm)]; omega
                  · rw [hf2])
                have hAb : ((1 : Int) == A) = false := by rw [beq_eq_false_iff_ne]; exact fun e => hAk e.symm
                replace hAk := hid hAk
                replace hfacts := hid hfacts
                go_wp2_with (first | (go_at_call 15; (with_reducible refine (hRk.out _ hL6.out).mono ?_); rw [e.out]; rintro e' w7 ⟨rfl, hb7⟩; replace hb7 := hid (Below.next hb6.out hb7 hb6.out.size)))
                go_roundg (3 - (1 + 1))
                case rel => exact ⟨1 + 1, by omega, rfl, rfl, hb7.out⟩
                case measure => omega
            · have hRk := hid (fun (w : World) (h : LanesM w (grow M wr0 w5) lb 3 (plT places) ms') => room_c h 2)
              unfold RoomPost at hRk
              by_cases hAk : A = 2
              · subst hAk
                rcases hfacts with ⟨rfl, hf1, hf2⟩ | ⟨hE, hf1, hf2⟩
                · have e := hid (show roomT 3 (plT places) ms' 2 = roomT 3 (plT places) ms 2 - 1 by rw [hf2]; simp)
                  clear hf2
                  go_wp2_with (first | (go_at_call 15; (with_reducible refine (hRk.out _ hL6.out).mono ?_); rw [e.out]; rintro e' w7 ⟨rfl, hb7⟩; replace hb7 := hid (Below.next hb6.out hb7 hb6.out.size)))
                  go_roundg (3 - (2 + 1))
                  case rel => exact ⟨2 + 1, by omega, rfl, rfl, hb7.out⟩
                  case measure => omega
                · have e := hid (hf2 2)
                  have hEb : (E == 0) = false := by simpa using hE
                  replace hE := hid hE
                  clear hf2
                  go_wp2_with (first | (go_at_call 15; (with_reducible refine (hRk.out _ hL6.out).mono ?_); rw [e.out]; rintro e' w7 ⟨rfl, hb7⟩; replace hb7 := hid (Below.next hb6.out hb7 hb6.out.size)))
                  go_roundg (3 - (2 + 1))
                  case rel => exact ⟨2 + 1, by omega, rfl, rfl, hb7.out⟩
                  case measure => omega
              · have e : Hid (roomT 3 (plT places) ms' 2 = roomT 3 (plT places) ms 2) := hid (by
                  rcases hfacts with ⟨_, _, hf2⟩ | ⟨_, _, hf2⟩
                  · rw [hf2, if_neg (fun e => hAk e.symm)]; omega
                  · rw [hf2])
                have hAb : ((2 : Int) == A) = false := by rw [beq_eq_false_iff_ne]; exact fun e => hAk e.symm
                replace hAk := hid hAk
                replace hfacts := hid hfacts
                go_wp2_with (first | (go_at_call 15; (with_reducible refine (hRk.out _ hL6.out).mono ?_); rw [e.out]; rintro e' w7 ⟨rfl, hb7⟩; replace hb7 := hid (Below.next hb6.out hb7 hb6.out.size)))
                go_roundg (3 - (2 + 1))
                case rel => exact ⟨2 + 1, by omega, rfl, rfl, hb7.out⟩
                case measure => omega
            · have h6L := hL6.out
              have hr3 := room_c h6L 3
              have hb3 := fun (w : World) (h : LanesM w (grow M wr0 w5) lb 3 (plT places) ms') => put_bad h none 0 0 ⟨[], 3, 0, 0, 0⟩ (by decide)
              have hb4 := fun (w : World) (h : LanesM w (grow M wr0 w5) lb 3 (plT places) ms') => put_bad h none 0 0 ⟨[], -1, 0, 0, 0⟩ (by decide)
              have e3 : roomT 3 (plT places) ms' 3 = 0 := by unfold roomT; rw [if_neg (by decide)]
              rw [e3] at hr3
              unfold RoomPost at hr3
              simp only at hb3 hb4
              replace hr3 := hid hr3
              replace hb3 := hid hb3
              replace hb4 := hid hb4
              clear e3 h6L
              have hA3 : A = 0 ∨ A = 1 ∨ A = 2 := by omega
              have hEd : ((E == 0) == decide (0 < roomT 3 (plT places) ms A)) = true := by
                rcases hfacts with ⟨rfl, h1, _⟩ | ⟨h0, h1, _⟩
                · simp [h1]
                · simp [h0, h1]
              replace hfacts := hid hfacts
              rcases hA3 with rfl | rfl | rfl
              all_goals
                go_wp2_with (first | (go_at_call 15; (with_reducible refine (hr3.out).mono ?_); rintro e w7 ⟨rfl, hb7⟩; have hL7 := hid (hL6.out.below hb7); have hW7 := hid (hW6.out.next hb7); clear hb7) | (go_at_call 16; (with_reducible refine (hb3.out _ hL7.out).mono ?_); rintro e w8 ⟨rfl, hb8⟩; have hL8 := hid (hL7.out.below hb8); have hW8 := hid (hW7.out.next hb8); clear hb8) | (go_at_call 16; (with_reducible refine (hb4.out _ hL8.out).mono ?_); rintro e w9 ⟨rfl, hb9⟩; have hW9 := hid (hW8.out.next hb9); clear hb9))
                go_ret
                exact ⟨rfl, hW9.out.below⟩
end Go.Proofs.Ytbbhhjoohfkanaa.La
