/- DERIVED. The walk over the reference's lanes: Put. -/
import Derived.Test.YtealopempjempaaRefLaneB
namespace Go.Proofs.Ytealopempjempaa.Rl
set_option linter.unusedVariables false
set_option linter.unusedSimpArgs false
open Go.RowKit Go.Proofs.Ytealopempjempaa.K Go.Proofs.Ytealopempjempaa.Sp Go.Proofs.Ytealopempjempaa.Lb Go.Proofs.Ytealopempjempaa.So Go.Proofs.Ytealopempjempaa.La
section
variable {w w' : World} {ok okw : Nat → Prop} {ln pl : Int} {v : Value} {ps : List (Value × Msg)} {ms : List Msg} {ma : Option Addr} {mc : Nat} {m : Msg}
/-- Put's call that turns nothing. -/
def PutNo (w : World) (ln pl : Int) (v : Value) (E : Int) (e : Ending) (w' : World) : Prop := e = .returned (.tuple #[.agg #[.int .i64 ln, .int .i64 pl, v], .int .i64 E]) ∧ Below w.heap.size w w'
set_option maxHeartbeats 2000000 in
theorem put_bad (h : MsgsAt ok okw w v ps) (hi : isT ln m.lane = false) : Calls Try.prog 59 #[.agg #[.int .i64 ln, .int .i64 pl, v], .agg #[.slice ma m.words.length mc, .int .i64 m.lane, .int .i64 m.stamp, .int .i64 m.late, .int .i64 m.seq]] w (PutNo w ln pl v 3) := by
  obtain ⟨ao, cap, rfl⟩ := h.shape
  by_cases hq : m.lane < 0
  · replace hi := hid hi
    have hbA := (((Below.refl w.heap.size w).alloc (Nat.le_refl _) (.cells #[.int .i64 ln, .int .i64 pl, .slice ao ps.length cap] 56)).alloc (by simp) (.cells #[.slice ma m.words.length mc, .int .i64 m.lane, .int .i64 m.stamp, .int .i64 m.late, .int .i64 m.seq] 37)).alloc (by simp; omega) (.cells #[.int .i64 0, .int .i64 0, .slice none 0 0] 56)
    have hp0 := ((pts.newA w #[.int .i64 ln, .int .i64 pl, .slice ao ps.length cap] 56).alloc (.cells #[.slice ma m.words.length mc, .int .i64 m.lane, .int .i64 m.stamp, .int .i64 m.late, .int .i64 m.seq] 37)).alloc (.cells #[.int .i64 0, .int .i64 0, .slice none 0 0] 56)
    have hp1 : pts (((w.alloc (.cells #[.int .i64 ln, .int .i64 pl, .slice ao ps.length cap] 56)).alloc (.cells #[.slice ma m.words.length mc, .int .i64 m.lane, .int .i64 m.stamp, .int .i64 m.late, .int .i64 m.seq] 37)).alloc (.cells #[.int .i64 0, .int .i64 0, .slice none 0 0] 56)) (w.heap.size + 1) [.slice ma m.words.length mc, .int .i64 m.lane, .int .i64 m.stamp, .int .i64 m.late, .int .i64 m.seq] 37 := (show pts ((w.alloc (.cells #[.int .i64 ln, .int .i64 pl, .slice ao ps.length cap] 56)).alloc (.cells #[.slice ma m.words.length mc, .int .i64 m.lane, .int .i64 m.stamp, .int .i64 m.late, .int .i64 m.seq] 37)) (w.heap.size + 1) [.slice ma m.words.length mc, .int .i64 m.lane, .int .i64 m.stamp, .int .i64 m.late, .int .i64 m.seq] 37 by simpa using pts.newA (w.alloc (.cells #[.int .i64 ln, .int .i64 pl, .slice ao ps.length cap] 56)) #[.slice ma m.words.length mc, .int .i64 m.lane, .int .i64 m.stamp, .int .i64 m.late, .int .i64 m.seq] 37).alloc (.cells #[.int .i64 0, .int .i64 0, .slice none 0 0] 56)
    have hp2 : pts (((w.alloc (.cells #[.int .i64 ln, .int .i64 pl, .slice ao ps.length cap] 56)).alloc (.cells #[.slice ma m.words.length mc, .int .i64 m.lane, .int .i64 m.stamp, .int .i64 m.late, .int .i64 m.seq] 37)).alloc (.cells #[.int .i64 0, .int .i64 0, .slice none 0 0] 56)) (w.heap.size + 1 + 1) [.int .i64 0, .int .i64 0, .slice none 0 0] 56 := by simpa using pts.newA ((w.alloc (.cells #[.int .i64 ln, .int .i64 pl, .slice ao ps.length cap] 56)).alloc (.cells #[.slice ma m.words.length mc, .int .i64 m.lane, .int .i64 m.stamp, .int .i64 m.late, .int .i64 m.seq] 37)) #[.int .i64 0, .int .i64 0, .slice none 0 0] 56
    have hA := h.below hbA
    have hsz : (((w.alloc (.cells #[.int .i64 ln, .int .i64 pl, .slice ao ps.length cap] 56)).alloc (.cells #[.slice ma m.words.length mc, .int .i64 m.lane, .int .i64 m.stamp, .int .i64 m.late, .int .i64 m.seq] 37)).alloc (.cells #[.int .i64 0, .int .i64 0, .slice none 0 0] 56)).heap.size = w.heap.size + 1 + 1 + 1 := by simp
    have hz := hid hbA.size
    replace h := hid h
    go_enter Try.func59, Try.ntmps59
    go_upto_region 1 with fail
    generalize ((w.alloc (.cells #[.int .i64 ln, .int .i64 pl, .slice ao ps.length cap] 56)).alloc (.cells #[.slice ma m.words.length mc, .int .i64 m.lane, .int .i64 m.stamp, .int .i64 m.late, .int .i64 m.seq] 37)).alloc (.cells #[.int .i64 0, .int .i64 0, .slice none 0 0] 56) = W at hbA hp0 hp1 hp2 hA hz hsz ⊢
    generalize hB0 : w.heap.size = b0 at hp0 hp1 hp2 hsz ⊢
    replace hB0 := hid hB0
    replace hbA := hid hbA
    replace hA := hid hA
    have y0 := hp0.cell 0
    have y1 := hp0.cell 1
    have y2 := hp0.cell 2
    have yl := hp0.lt
    have q0 := hp1.cell 0
    have q1 := hp1.cell 1
    have q2 := hp1.cell 2
    have q3 := hp1.cell 3
    have q4 := hp1.cell 4
    have ql := hp1.lt
    simp only [List.getElem?_cons_zero, List.getElem?_cons_succ] at y0 y1 y2 q0 q1 q2 q3 q4
    have z0 := hp2.cell 0
    have z1 := hp2.cell 1
    have z2 := hp2.cell 2
    have zl := hp2.lt
    have zf0 := hp2.frozen 0
    have zf1 := hp2.frozen 1
    have zf2 := hp2.frozen 2
    simp only [List.getElem?_cons_zero, List.getElem?_cons_succ] at z0 z1 z2
    go_wp2
    have hbW := hbA.out
    have hr1 := (((hp2.set 0 (.int .i64 ln)).set 1 (.int .i64 pl)).set 2 (.slice ao ps.length cap))
    have r0 := hr1.cell 0
    have r1 := hr1.cell 1
    have r2 := hr1.cell 2
    simp only [List.set_cons_zero, List.set_cons_succ, List.getElem?_cons_zero, List.getElem?_cons_succ] at r0 r1 r2
    exact bodyPost_ret (v := .tuple #[.agg #[.int .i64 ln, .int .i64 pl, (.slice ao ps.length cap)], .int .i64 3]) (by simp [results, Try.results59, go_sem, r0, r1, r2]) rfl ⟨rfl, ((hbW.setCell (p := ⟨b0 + 1 + 1, 0, none⟩) (by rw [hB0.out]; exact Nat.le_succ_of_le (Nat.le_succ b0)) (.int .i64 ln)).setCell (p := ⟨b0 + 1 + 1, 1, none⟩) (by rw [hB0.out]; exact Nat.le_succ_of_le (Nat.le_succ b0)) (.int .i64 pl)).setCell (p := ⟨b0 + 1 + 1, 2, none⟩) (by rw [hB0.out]; exact Nat.le_succ_of_le (Nat.le_succ b0)) (.slice ao ps.length cap)⟩
  · have d2 : decide (ln ≤ m.lane) = true := by unfold isT at hi; simp at hi ⊢; omega
    replace hi := hid hi
    have hbA := (((Below.refl w.heap.size w).alloc (Nat.le_refl _) (.cells #[.int .i64 ln, .int .i64 pl, .slice ao ps.length cap] 56)).alloc (by simp) (.cells #[.slice ma m.words.length mc, .int .i64 m.lane, .int .i64 m.stamp, .int .i64 m.late, .int .i64 m.seq] 37)).alloc (by simp; omega) (.cells #[.int .i64 0, .int .i64 0, .slice none 0 0] 56)
    have hp0 := ((pts.newA w #[.int .i64 ln, .int .i64 pl, .slice ao ps.length cap] 56).alloc (.cells #[.slice ma m.words.length mc, .int .i64 m.lane, .int .i64 m.stamp, .int .i64 m.late, .int .i64 m.seq] 37)).alloc (.cells #[.int .i64 0, .int .i64 0, .slice none 0 0] 56)
    have hp1 : pts (((w.alloc (.cells #[.int .i64 ln, .int .i64 pl, .slice ao ps.length cap] 56)).alloc (.cells #[.slice ma m.words.length mc, .int .i64 m.lane, .int .i64 m.stamp, .int .i64 m.late, .int .i64 m.seq] 37)).alloc (.cells #[.int .i64 0, .int .i64 0, .slice none 0 0] 56)) (w.heap.size + 1) [.slice ma m.words.length mc, .int .i64 m.lane, .int .i64 m.stamp, .int .i64 m.late, .int .i64 m.seq] 37 := (show pts ((w.alloc (.cells #[.int .i64 ln, .int .i64 pl, .slice ao ps.length cap] 56)).alloc (.cells #[.slice ma m.words.length mc, .int .i64 m.lane, .int .i64 m.stamp, .int .i64 m.late, .int .i64 m.seq] 37)) (w.heap.size + 1) [.slice ma m.words.length mc, .int .i64 m.lane, .int .i64 m.stamp, .int .i64 m.late, .int .i64 m.seq] 37 by simpa using pts.newA (w.alloc (.cells #[.int .i64 ln, .int .i64 pl, .slice ao ps.length cap] 56)) #[.slice ma m.words.length mc, .int .i64 m.lane, .int .i64 m.stamp, .int .i64 m.late, .int .i64 m.seq] 37).alloc (.cells #[.int .i64 0, .int .i64 0, .slice none 0 0] 56)
    have hp2 : pts (((w.alloc (.cells #[.int .i64 ln, .int .i64 pl, .slice ao ps.length cap] 56)).alloc (.cells #[.slice ma m.words.length mc, .int .i64 m.lane, .int .i64 m.stamp, .int .i64 m.late, .int .i64 m.seq] 37)).alloc (.cells #[.int .i64 0, .int .i64 0, .slice none 0 0] 56)) (w.heap.size + 1 + 1) [.int .i64 0, .int .i64 0, .slice none 0 0] 56 := by simpa using pts.newA ((w.alloc (.cells #[.int .i64 ln, .int .i64 pl, .slice ao ps.length cap] 56)).alloc (.cells #[.slice ma m.words.length mc, .int .i64 m.lane, .int .i64 m.stamp, .int .i64 m.late, .int .i64 m.seq] 37)) #[.int .i64 0, .int .i64 0, .slice none 0 0] 56
    have hA := h.below hbA
    have hsz : (((w.alloc (.cells #[.int .i64 ln, .int .i64 pl, .slice ao ps.length cap] 56)).alloc (.cells #[.slice ma m.words.length mc, .int .i64 m.lane, .int .i64 m.stamp, .int .i64 m.late, .int .i64 m.seq] 37)).alloc (.cells #[.int .i64 0, .int .i64 0, .slice none 0 0] 56)).heap.size = w.heap.size + 1 + 1 + 1 := by simp
    have hz := hid hbA.size
    replace h := hid h
    go_enter Try.func59, Try.ntmps59
    go_upto_region 1 with fail
    generalize ((w.alloc (.cells #[.int .i64 ln, .int .i64 pl, .slice ao ps.length cap] 56)).alloc (.cells #[.slice ma m.words.length mc, .int .i64 m.lane, .int .i64 m.stamp, .int .i64 m.late, .int .i64 m.seq] 37)).alloc (.cells #[.int .i64 0, .int .i64 0, .slice none 0 0] 56) = W at hbA hp0 hp1 hp2 hA hz hsz ⊢
    generalize hB0 : w.heap.size = b0 at hp0 hp1 hp2 hsz ⊢
    replace hB0 := hid hB0
    replace hbA := hid hbA
    replace hA := hid hA
    have y0 := hp0.cell 0
    have y1 := hp0.cell 1
    have y2 := hp0.cell 2
    have yl := hp0.lt
    have q0 := hp1.cell 0
    have q1 := hp1.cell 1
    have q2 := hp1.cell 2
    have q3 := hp1.cell 3
    have q4 := hp1.cell 4
    have ql := hp1.lt
    simp only [List.getElem?_cons_zero, List.getElem?_cons_succ] at y0 y1 y2 q0 q1 q2 q3 q4
    have z0 := hp2.cell 0
    have z1 := hp2.cell 1
    have z2 := hp2.cell 2
    have zl := hp2.lt
    have zf0 := hp2.frozen 0
    have zf1 := hp2.frozen 1
    have zf2 := hp2.frozen 2
    simp only [List.getElem?_cons_zero, List.getElem?_cons_succ] at z0 z1 z2
    go_wp2
    have hbW := hbA.out
    have hr1 := (((hp2.set 0 (.int .i64 ln)).set 1 (.int .i64 pl)).set 2 (.slice ao ps.length cap))
    have r0 := hr1.cell 0
    have r1 := hr1.cell 1
    have r2 := hr1.cell 2
    simp only [List.set_cons_zero, List.set_cons_succ, List.getElem?_cons_zero, List.getElem?_cons_succ] at r0 r1 r2
    exact bodyPost_ret (v := .tuple #[.agg #[.int .i64 ln, .int .i64 pl, (.slice ao ps.length cap)], .int .i64 3]) (by simp [results, Try.results59, go_sem, r0, r1, r2]) rfl ⟨rfl, ((hbW.setCell (p := ⟨b0 + 1 + 1, 0, none⟩) (by rw [hB0.out]; exact Nat.le_succ_of_le (Nat.le_succ b0)) (.int .i64 ln)).setCell (p := ⟨b0 + 1 + 1, 1, none⟩) (by rw [hB0.out]; exact Nat.le_succ_of_le (Nat.le_succ b0)) (.int .i64 pl)).setCell (p := ⟨b0 + 1 + 1, 2, none⟩) (by rw [hB0.out]; exact Nat.le_succ_of_le (Nat.le_succ b0)) (.slice ao ps.length cap)⟩
set_option maxHeartbeats 2000000 in
theorem put_full (h : MsgsAt ok okw w v ps) (hsm : ps.length < 1000) (hl : 1 ≤ ln ∧ ln ≤ 3) (hp : 1 ≤ pl ∧ pl ≤ 8) (hi : isT ln m.lane = true) (hr : roomT ln pl (ps.map Prod.snd) m.lane = 0) : Calls Try.prog 59 #[.agg #[.int .i64 ln, .int .i64 pl, v], .agg #[.slice ma m.words.length mc, .int .i64 m.lane, .int .i64 m.stamp, .int .i64 m.late, .int .i64 m.seq]] w (PutNo w ln pl v 10) := by
  obtain ⟨ao, cap, rfl⟩ := h.shape
  have d1 : decide (m.lane < 0) = false := by unfold isT at hi; simp at hi ⊢; omega
  have d2 : decide (ln ≤ m.lane) = false := by unfold isT at hi; simp at hi ⊢; omega
  replace hi := hid hi
  have hbA := (((Below.refl w.heap.size w).alloc (Nat.le_refl _) (.cells #[.int .i64 ln, .int .i64 pl, .slice ao ps.length cap] 56)).alloc (by simp) (.cells #[.slice ma m.words.length mc, .int .i64 m.lane, .int .i64 m.stamp, .int .i64 m.late, .int .i64 m.seq] 37)).alloc (by simp; omega) (.cells #[.int .i64 0, .int .i64 0, .slice none 0 0] 56)
  have hp0 := ((pts.newA w #[.int .i64 ln, .int .i64 pl, .slice ao ps.length cap] 56).alloc (.cells #[.slice ma m.words.length mc, .int .i64 m.lane, .int .i64 m.stamp, .int .i64 m.late, .int .i64 m.seq] 37)).alloc (.cells #[.int .i64 0, .int .i64 0, .slice none 0 0] 56)
  have hp1 : pts (((w.alloc (.cells #[.int .i64 ln, .int .i64 pl, .slice ao ps.length cap] 56)).alloc (.cells #[.slice ma m.words.length mc, .int .i64 m.lane, .int .i64 m.stamp, .int .i64 m.late, .int .i64 m.seq] 37)).alloc (.cells #[.int .i64 0, .int .i64 0, .slice none 0 0] 56)) (w.heap.size + 1) [.slice ma m.words.length mc, .int .i64 m.lane, .int .i64 m.stamp, .int .i64 m.late, .int .i64 m.seq] 37 := (show pts ((w.alloc (.cells #[.int .i64 ln, .int .i64 pl, .slice ao ps.length cap] 56)).alloc (.cells #[.slice ma m.words.length mc, .int .i64 m.lane, .int .i64 m.stamp, .int .i64 m.late, .int .i64 m.seq] 37)) (w.heap.size + 1) [.slice ma m.words.length mc, .int .i64 m.lane, .int .i64 m.stamp, .int .i64 m.late, .int .i64 m.seq] 37 by simpa using pts.newA (w.alloc (.cells #[.int .i64 ln, .int .i64 pl, .slice ao ps.length cap] 56)) #[.slice ma m.words.length mc, .int .i64 m.lane, .int .i64 m.stamp, .int .i64 m.late, .int .i64 m.seq] 37).alloc (.cells #[.int .i64 0, .int .i64 0, .slice none 0 0] 56)
  have hp2 : pts (((w.alloc (.cells #[.int .i64 ln, .int .i64 pl, .slice ao ps.length cap] 56)).alloc (.cells #[.slice ma m.words.length mc, .int .i64 m.lane, .int .i64 m.stamp, .int .i64 m.late, .int .i64 m.seq] 37)).alloc (.cells #[.int .i64 0, .int .i64 0, .slice none 0 0] 56)) (w.heap.size + 1 + 1) [.int .i64 0, .int .i64 0, .slice none 0 0] 56 := by simpa using pts.newA ((w.alloc (.cells #[.int .i64 ln, .int .i64 pl, .slice ao ps.length cap] 56)).alloc (.cells #[.slice ma m.words.length mc, .int .i64 m.lane, .int .i64 m.stamp, .int .i64 m.late, .int .i64 m.seq] 37)) #[.int .i64 0, .int .i64 0, .slice none 0 0] 56
  have hA := h.below hbA
  have hsz : (((w.alloc (.cells #[.int .i64 ln, .int .i64 pl, .slice ao ps.length cap] 56)).alloc (.cells #[.slice ma m.words.length mc, .int .i64 m.lane, .int .i64 m.stamp, .int .i64 m.late, .int .i64 m.seq] 37)).alloc (.cells #[.int .i64 0, .int .i64 0, .slice none 0 0] 56)).heap.size = w.heap.size + 1 + 1 + 1 := by simp
  have hz := hid hbA.size
  replace h := hid h
  go_enter Try.func59, Try.ntmps59
  go_upto_region 1 with fail
  generalize ((w.alloc (.cells #[.int .i64 ln, .int .i64 pl, .slice ao ps.length cap] 56)).alloc (.cells #[.slice ma m.words.length mc, .int .i64 m.lane, .int .i64 m.stamp, .int .i64 m.late, .int .i64 m.seq] 37)).alloc (.cells #[.int .i64 0, .int .i64 0, .slice none 0 0] 56) = W at hbA hp0 hp1 hp2 hA hz hsz ⊢
  generalize hB0 : w.heap.size = b0 at hp0 hp1 hp2 hsz ⊢
  replace hB0 := hid hB0
  replace hbA := hid hbA
  replace hA := hid hA
  have y0 := hp0.cell 0
  have y1 := hp0.cell 1
  have y2 := hp0.cell 2
  have yl := hp0.lt
  have q0 := hp1.cell 0
  have q1 := hp1.cell 1
  have q2 := hp1.cell 2
  have q3 := hp1.cell 3
  have q4 := hp1.cell 4
  have ql := hp1.lt
  simp only [List.getElem?_cons_zero, List.getElem?_cons_succ] at y0 y1 y2 q0 q1 q2 q3 q4
  have hrm := hid (room_c hA.out hsm hl hp m.lane)
  rw [hr] at hrm
  replace hl := hid hl
  replace hp := hid hp
  go_upto_region 4 with (first | (go_at_call 56; (with_reducible refine (hrm.out).mono ?_); rintro e w7 ⟨rfl, hb7⟩; have u0 := (hp0.below hb7).cell 0; have u1 := (hp0.below hb7).cell 1; have u2 := (hp0.below hb7).cell 2; have ul := (hp0.below hb7).lt; have hp27 := hp2.below hb7; simp only [List.getElem?_cons_zero, List.getElem?_cons_succ] at u0 u1 u2; clear y0 y1 y2 yl q0 q1 q2 q3 q4 ql; replace hb7 := hid hb7))
  clear hp2
  have hp2 := hp27
  clear hp27
  have z0 := hp2.cell 0
  have z1 := hp2.cell 1
  have z2 := hp2.cell 2
  have zl := hp2.lt
  have zf0 := hp2.frozen 0
  have zf1 := hp2.frozen 1
  have zf2 := hp2.frozen 2
  simp only [List.getElem?_cons_zero, List.getElem?_cons_succ] at z0 z1 z2
  go_wp2
  have hbW := Below.next hbA.out hb7.out hbA.out.size
  have hr1 := (((hp2.set 0 (.int .i64 ln)).set 1 (.int .i64 pl)).set 2 (.slice ao ps.length cap))
  have r0 := hr1.cell 0
  have r1 := hr1.cell 1
  have r2 := hr1.cell 2
  simp only [List.set_cons_zero, List.set_cons_succ, List.getElem?_cons_zero, List.getElem?_cons_succ] at r0 r1 r2
  exact bodyPost_ret (v := .tuple #[.agg #[.int .i64 ln, .int .i64 pl, (.slice ao ps.length cap)], .int .i64 10]) (by simp [results, Try.results59, go_sem, r0, r1, r2]) rfl ⟨rfl, ((hbW.setCell (p := ⟨b0 + 1 + 1, 0, none⟩) (by rw [hB0.out]; exact Nat.le_succ_of_le (Nat.le_succ b0)) (.int .i64 ln)).setCell (p := ⟨b0 + 1 + 1, 1, none⟩) (by rw [hB0.out]; exact Nat.le_succ_of_le (Nat.le_succ b0)) (.int .i64 pl)).setCell (p := ⟨b0 + 1 + 1, 2, none⟩) (by rw [hB0.out]; exact Nat.le_succ_of_le (Nat.le_succ b0)) (.slice ao ps.length cap)⟩
def PutYes (w : World) (okw : Nat → Prop) (ln pl : Int) (ms' : List Msg) (e : Ending) (w' : World) : Prop :=
  ∃ v' ps', e = .returned (.tuple #[.agg #[.int .i64 ln, .int .i64 pl, v'], .int .i64 0]) ∧ ps'.map Prod.snd = ms' ∧ MsgsAt (fun b => w.heap.size ≤ b) okw w' v' ps' ∧ Plain v' ∧ Below w.heap.size w w'
theorem ins_at {S d1 d2 : List Msg} {e : Msg} (h : Srt lane1 S) (hS : S = d1 ++ d2) (h2 : ∀ p ∈ d2, lane1 e < lane1 p) (h1 : d1 = [] ∨ ∃ d l, d1 = d ++ [l] ∧ lane1 l ≤ lane1 e) : insL lane1 e S = d1 ++ e :: d2 := by
  subst hS
  have hst := ins_stop h h2 h1
  exact Srt.uniq (insL_srt h) hst.1 ((insL_stab h).symm.trans hst.2)
set_option maxHeartbeats 4000000 in
theorem put_ok (h : MsgsAt ok okw w v ps) (hpv : Plain v) (hm : IntsAt okw w (.slice ma m.words.length mc) m.words) (hsrt : Srt lane1 (ps.map Prod.snd)) (hsm : ps.length < 1000) (hl : 1 ≤ ln ∧ ln ≤ 3) (hp : 1 ≤ pl ∧ pl ≤ 8) (hi : isT ln m.lane = true) (hr : roomT ln pl (ps.map Prod.snd) m.lane ≠ 0) : Calls Try.prog 59 #[.agg #[.int .i64 ln, .int .i64 pl, v], .agg #[.slice ma m.words.length mc, .int .i64 m.lane, .int .i64 m.stamp, .int .i64 m.late, .int .i64 m.seq]] w (PutYes w okw ln pl (insL lane1 m (ps.map Prod.snd))) := by
  obtain ⟨ao, cap, rfl⟩ := h.shape
  replace hpv := hpv.out
  obtain ⟨-, hc1, hc2, -⟩ := h.get
  have d1 : decide (m.lane < 0) = false := by unfold isT at hi; simp at hi ⊢; omega
  have d2 : decide (ln ≤ m.lane) = false := by unfold isT at hi; simp at hi ⊢; omega
  replace hi := hid hi
  have hwo := hid h.words
  replace hm := hid hm
  replace hsrt := hid hsrt
  replace hpv := hid hpv
  have hbA := (((Below.refl w.heap.size w).alloc (Nat.le_refl _) (.cells #[.int .i64 ln, .int .i64 pl, .slice ao ps.length cap] 56)).alloc (by simp) (.cells #[.slice ma m.words.length mc, .int .i64 m.lane, .int .i64 m.stamp, .int .i64 m.late, .int .i64 m.seq] 37)).alloc (by simp; omega) (.cells #[.int .i64 0, .int .i64 0, .slice none 0 0] 56)
  have hp0 := ((pts.newA w #[.int .i64 ln, .int .i64 pl, .slice ao ps.length cap] 56).alloc (.cells #[.slice ma m.words.length mc, .int .i64 m.lane, .int .i64 m.stamp, .int .i64 m.late, .int .i64 m.seq] 37)).alloc (.cells #[.int .i64 0, .int .i64 0, .slice none 0 0] 56)
  have hp1 : pts (((w.alloc (.cells #[.int .i64 ln, .int .i64 pl, .slice ao ps.length cap] 56)).alloc (.cells #[.slice ma m.words.length mc, .int .i64 m.lane, .int .i64 m.stamp, .int .i64 m.late, .int .i64 m.seq] 37)).alloc (.cells #[.int .i64 0, .int .i64 0, .slice none 0 0] 56)) (w.heap.size + 1) [.slice ma m.words.length mc, .int .i64 m.lane, .int .i64 m.stamp, .int .i64 m.late, .int .i64 m.seq] 37 := (show pts ((w.alloc (.cells #[.int .i64 ln, .int .i64 pl, .slice ao ps.length cap] 56)).alloc (.cells #[.slice ma m.words.length mc, .int .i64 m.lane, .int .i64 m.stamp, .int .i64 m.late, .int .i64 m.seq] 37)) (w.heap.size + 1) [.slice ma m.words.length mc, .int .i64 m.lane, .int .i64 m.stamp, .int .i64 m.late, .int .i64 m.seq] 37 by simpa using pts.newA (w.alloc (.cells #[.int .i64 ln, .int .i64 pl, .slice ao ps.length cap] 56)) #[.slice ma m.words.length mc, .int .i64 m.lane, .int .i64 m.stamp, .int .i64 m.late, .int .i64 m.seq] 37).alloc (.cells #[.int .i64 0, .int .i64 0, .slice none 0 0] 56)
  have hp2 : pts (((w.alloc (.cells #[.int .i64 ln, .int .i64 pl, .slice ao ps.length cap] 56)).alloc (.cells #[.slice ma m.words.length mc, .int .i64 m.lane, .int .i64 m.stamp, .int .i64 m.late, .int .i64 m.seq] 37)).alloc (.cells #[.int .i64 0, .int .i64 0, .slice none 0 0] 56)) (w.heap.size + 1 + 1) [.int .i64 0, .int .i64 0, .slice none 0 0] 56 := by simpa using pts.newA ((w.alloc (.cells #[.int .i64 ln, .int .i64 pl, .slice ao ps.length cap] 56)).alloc (.cells #[.slice ma m.words.length mc, .int .i64 m.lane, .int .i64 m.stamp, .int .i64 m.late, .int .i64 m.seq] 37)) #[.int .i64 0, .int .i64 0, .slice none 0 0] 56
  have hA := h.below hbA
  have hsz : (((w.alloc (.cells #[.int .i64 ln, .int .i64 pl, .slice ao ps.length cap] 56)).alloc (.cells #[.slice ma m.words.length mc, .int .i64 m.lane, .int .i64 m.stamp, .int .i64 m.late, .int .i64 m.seq] 37)).alloc (.cells #[.int .i64 0, .int .i64 0, .slice none 0 0] 56)).heap.size = w.heap.size + 1 + 1 + 1 := by simp
  have hz := hid hbA.size
  replace h := hid h
  go_enter Try.func59, Try.ntmps59
  go_upto_region 1 with fail
  generalize ((w.alloc (.cells #[.int .i64 ln, .int .i64 pl, .slice ao ps.length cap] 56)).alloc (.cells #[.slice ma m.words.length mc, .int .i64 m.lane, .int .i64 m.stamp, .int .i64 m.late, .int .i64 m.seq] 37)).alloc (.cells #[.int .i64 0, .int .i64 0, .slice none 0 0] 56) = W at hbA hp0 hp1 hp2 hA hz hsz ⊢
  generalize hB0 : w.heap.size = b0 at hp0 hp1 hp2 hsz ⊢
  replace hB0 := hid hB0
  replace hbA := hid hbA
  replace hA := hid hA
  have y0 := hp0.cell 0
  have y1 := hp0.cell 1
  have y2 := hp0.cell 2
  have yl := hp0.lt
  have q0 := hp1.cell 0
  have q1 := hp1.cell 1
  have q2 := hp1.cell 2
  have q3 := hp1.cell 3
  have q4 := hp1.cell 4
  have ql := hp1.lt
  simp only [List.getElem?_cons_zero, List.getElem?_cons_succ] at y0 y1 y2 q0 q1 q2 q3 q4
  have hrm := hid (room_c hA.out hsm hl hp m.lane)
  have hr0 : (roomT ln pl (ps.map Prod.snd) m.lane == 0) = false := by simpa using hr
  generalize roomT ln pl (ps.map Prod.snd) m.lane = rr at hrm hr0 hr
  replace hr := hid hr
  replace hl := hid hl
  replace hp := hid hp
  go_upto_region 5 with (first | (go_at_call 56; (with_reducible refine (hrm.out).mono ?_); rintro e w7 ⟨rfl, hb7⟩; have hpp0 := hp0.below hb7; have hpp1 := hp1.below hb7; have hpp2 := hp2.below hb7; have hA7 := hid (hA.out.below hb7); clear y0 y1 y2 yl q0 q1 q2 q3 q4 ql; have hz7 := hid (Nat.lt_of_lt_of_le (show b0 + 1 + 1 < W.heap.size by omega) hb7.size); have hbW := hid (Below.next hbA.out hb7 hbA.out.size); clear hb7))
  clear hp0 hp1 hp2 hA hbA hrm
  have y0 := hpp0.cell 0
  have y1 := hpp0.cell 1
  have y2 := hpp0.cell 2
  have yl := hpp0.lt
  simp only [List.getElem?_cons_zero, List.getElem?_cons_succ] at y0 y1 y2
  replace hpp0 := hid hpp0
  replace hpp1 := hid hpp1
  replace hpp2 := hid hpp2
  go_wp2
  have hz7 := hz7.out
  go_loopg [6] ps.length (fun gg si wr => ∃ (d1 d2 : List (Value × Msg)) (J : Nat), ps = d1 ++ d2 ∧ J = d1.length ∧ (∀ q ∈ d2, laneOf (.slice ma m.words.length mc, m) < laneOf q) ∧ si = .int .i64 J ∧ gg = d1.length ∧ Below w7.heap.size w7 wr)
  case atStart => exact ⟨ps, [], ps.length, by simp, rfl, (fun q hq => by cases hq), rfl, rfl, Below.refl _ _⟩
  case round =>
    obtain ⟨d1, d2, J, hd, hJ, hgt, rfl, hgj, hB⟩ := hrel
    have hpn : ps.length = d1.length + d2.length := by rw [hd]; simp
    have hx0 := hid (hpp0.out.below hB)
    have hx1 := hid (hpp1.out.below hB)
    have hx2 := hid (hpp2.out.below hB)
    have hAr := hid (hA7.out.below hB)
    have hbWr := hid (Below.next hbW.out hB hbW.out.size)
    have hz8 := Nat.lt_of_lt_of_le hz7 hB.size
    have hB' := hid hB
    clear hB
    have u0 := hx0.out.cell 0
    have u1 := hx0.out.cell 1
    have u2 := hx0.out.cell 2
    have ul := hx0.out.lt
    have q0 := hx1.out.cell 0
    have q1 := hx1.out.cell 1
    have q2 := hx1.out.cell 2
    have q3 := hx1.out.cell 3
    have q4 := hx1.out.cell 4
    have ql := hx1.out.lt
    simp only [List.getElem?_cons_zero, List.getElem?_cons_succ] at u0 u1 u2 q0 q1 q2 q3 q4
    rcases getLast_split d1 with rfl | ⟨d', l, rfl⟩
    · have hJ0 : J = 0 := by simpa using hJ
      have hg0 : decide (0 < (J : Int)) = false := by simp; omega
      have hg1 : decide (0 < J) = false := by simp; omega
      have hg2 : ¬ (0 < J) := by omega
      have hins := hid (ins_at (S := ps.map Prod.snd) (d1 := []) (d2 := d2.map Prod.snd) (e := m) hsrt.out (by rw [hd]; simp) (fun p hp => by obtain ⟨q, hq, rfl⟩ := List.mem_map.1 hp; exact hgt q hq) (.inl rfl))
      have hJle := hid (show J ≤ ps.length by omega)
      have hJd := hid (show J = ([] : List (Value × Msg)).length from hJ)
      replace hd := hid hd
      replace hJ := hid hJ
      replace hJ0 := hid hJ0
      replace hgt := hid hgt
      replace hpn := hid hpn
      replace hgj := hid hgj
      go_upto_region 6 with fail
      go_quiet (fail)
      go_upto_region 8 with fail
      have hBt := hB'.out.trans (K.Below.drewN w7.heap.size wr nq)
      clear hg0 hg1 hg2
      clear u0 u1 u2 ul q0 q1 q2 q3 q4 ql hx0 hx1 hx2 hAr hbWr hz8
      generalize (wr.drewN nq) = wt at hBt ⊢
      have hx0 := hid (hpp0.out.below hBt)
      have hx1 := hid (hpp1.out.below hBt)
      have hx2 := hid (hpp2.out.below hBt)
      have hAr := hid (hA7.out.below hBt)
      have hbWr := hid (Below.next hbW.out hBt hbW.out.size)
      have hz8 := Nat.lt_of_lt_of_le hz7 hBt.size
      have hT0 := hid (Two.start (α := Value × Msg) (β := Value × Msg) encM encM 37 37 5 5 (Below.refl wt.heap.size wt) (Nat.le_refl _))
      have u0 := hx0.out.cell 0
      have u1 := hx0.out.cell 1
      have u2 := hx0.out.cell 2
      have ul := hx0.out.lt
      have q0 := hx1.out.cell 0
      have q1 := hx1.out.cell 1
      have q2 := hx1.out.cell 2
      have q3 := hx1.out.cell 3
      have q4 := hx1.out.cell 4
      have ql := hx1.out.lt
      simp only [List.getElem?_cons_zero, List.getElem?_cons_succ] at u0 u1 u2 q0 q1 q2 q3 q4
      have hJcap : J ≤ cap := by have := hJle.out; omega
      have hJn : J ≤ ps.length := hJle.out
      have hJcapI : (J : Int) ≤ cap := by omega
      have hJnI : (J : Int) ≤ ps.length := by omega
      have hcut := hid (show MsgsAt ok okw wt (.slice ao J cap) [] from (show ps.take J = [] by rw [hJd.out, hd.out, List.take_left]) ▸ hAr.out.cutTo hJle.out)
      have hbd := hid (show ([] : List (Value × Msg)).length + ([] : List (Value × Msg)).length < 1000000 by have := hJd.out; have := hJle.out; simp only [List.length_nil] at *; omega)
      rcases hpv.out with rfl | ⟨g, o, rfl⟩
      · have hc0 : cap = 0 := by obtain ⟨_, _, e, ⟨_, _, h3⟩, _⟩ := hAr.out; simp only [Value.slice.injEq] at e; rw [e.2.2]; exact h3 e.1.symm
        have hcj : cap - J = 0 := by omega
        have hnj : ps.length - J = 0 := by omega
        replace hc0 := hid hc0
        have hdrop := hid (show MsgsAt ok okw wt (.slice none 0 0) d2 from (show ps.drop J = d2 by rw [hJd.out, hd.out]; rfl) ▸ (show ps.drop J = [] from List.drop_eq_nil_of_le (by omega)).symm ▸ ⟨none, 0, rfl, ⟨Nat.le_refl _, by unfold maxLen; omega, fun h => rfl⟩, WordsIn.nil _ _, .inl rfl⟩)
        have hbd2 := hid (show ([] : List (Value × Msg)).length + ([] : List (Value × Msg)).length + 1 + d2.length < 1000000 by have := hJd.out; have := hpn.out; simp only [List.length_nil] at *; omega)
        have hne1 : b0 ≠ b0 + 1 + 1 := by omega
        have hne2 : b0 + 1 + 1 ≠ b0 := by omega
        go_wp2_with (first | (at_builtin; (refine Two.wpAs elMsg hT0.out rfl (.tmp 44) (.tmp 48) rfl rfl rfl hcut.out hbd.out ?_; intro v1 w1 hT1 hz1; rw [List.nil_append] at hT1; obtain ⟨⟨a1, k1, rfl⟩, -⟩ := hT1.shapes; have m0 := (hx1.out.below hT1.below).cell 0; have m1 := (hx1.out.below hT1.below).cell 1; have m2 := (hx1.out.below hT1.below).cell 2; have m3 := (hx1.out.below hT1.below).cell 3; have m4 := (hx1.out.below hT1.below).cell 4; have ml := (hx1.out.below hT1.below).lt; simp only [List.getElem?_cons_zero, List.getElem?_cons_succ] at m0 m1 m2 m3 m4; clear u0 u1 u2 ul q0 q1 q2 q3 q4 ql; have hT1 := hid hT1)) | (at_builtin; (refine Two.wpA elMsg (hT1.out.alloc _) rfl (.tmp 50) (.tmp 52) rfl rfl (y := (.slice ma m.words.length mc, m)) rfl (heap_at _ _ _ (by simp)) rfl (by simp [encM, Value.oneCell']) (by have := hbd.out; simp only [List.length_nil] at *; omega) (by omega) ?_; intro g2 k2 w2 hT2 hz2; have n2 := (hx0.out.below hT2.below).cell 2; have nl := (hx0.out.below hT2.below).lt; simp only [List.getElem?_cons_zero, List.getElem?_cons_succ] at n2; have hT2 := hid hT2; have hdrop2 := hid (hdrop.out.below hT2.out.below); clear m0 m1 m2 m3 m4 ml)) | (at_builtin; (refine Two.wpAs elMsg hT2.out rfl (.tmp 54) (.tmp 58) rfl rfl rfl hdrop2.out (by have := hbd2.out; simp only [List.length_nil, List.length_append, List.length_cons] at *; omega) ?_; intro v3 w3 hT3 hz3; obtain ⟨⟨a3, k3, rfl⟩, -⟩ := hT3.shapes; generalize hN : (([] : List (Value × Msg)) ++ [((.slice ma m.words.length mc, m) : Value × Msg)] ++ d2).length = N at hT3 ⊢; replace hN := hid hN; have p0 := (hx0.out.below hT3.below).cell 0; have p1 := (hx0.out.below hT3.below).cell 1; have p2 := (hx0.out.below hT3.below).cell 2; have plt := (hx0.out.below hT3.below).lt; have pf := (hx0.out.below hT3.below).frozen 2; have hp2 := hx2.out.below hT3.below; have s0 := hp2.cell 0; have s1 := hp2.cell 1; have s2 := hp2.cell 2; have sl := hp2.lt; have f0 := hp2.frozen 0; have f1 := hp2.frozen 1; have f2 := hp2.frozen 2; simp only [List.getElem?_cons_zero, List.getElem?_cons_succ] at p0 p1 p2 s0 s1 s2; have hT3 := hid hT3; replace hp2 := hid hp2)))
        have hq3 := ((((hp2.out.set_ne (a := ⟨b0, 2, none⟩) hne2 (.slice a3 N k3)).set 0 (.int .i64 ln)).set 1 (.int .i64 pl)).set 2 (.slice a3 N k3))
        have r0 := hq3.cell 0
        have r1 := hq3.cell 1
        have r2 := hq3.cell 2
        simp only [List.set_cons_zero, List.set_cons_succ, List.getElem?_cons_zero, List.getElem?_cons_succ] at r0 r1 r2
        have hbF : Below w.heap.size w _ := ((((Below.next hbWr.out hT3.out.below hbWr.out.size).setCell (p := ⟨b0, 2, none⟩) (by rw [hB0.out]; exact Nat.le_refl b0) (.slice a3 N k3)).setCell (p := ⟨b0 + 1 + 1, 0, none⟩) (by rw [hB0.out]; exact Nat.le_succ_of_le (Nat.le_succ b0)) (.int .i64 ln)).setCell (p := ⟨b0 + 1 + 1, 1, none⟩) (by rw [hB0.out]; exact Nat.le_succ_of_le (Nat.le_succ b0)) (.int .i64 pl)).setCell (p := ⟨b0 + 1 + 1, 2, none⟩) (by rw [hB0.out]; exact Nat.le_succ_of_le (Nat.le_succ b0)) (.slice a3 N k3)
        have hkp : ∀ b, wt.heap.size ≤ b → _ = w3.heap[b]? := fun b hb => (((Below.heap_setCell _ ⟨b0 + 1 + 1, 2, none⟩ (.slice a3 N k3) b (by simp only; omega)).trans (Below.heap_setCell _ ⟨b0 + 1 + 1, 1, none⟩ (.int .i64 pl) b (by simp only; omega))).trans (Below.heap_setCell _ ⟨b0 + 1 + 1, 0, none⟩ (.int .i64 ln) b (by simp only; omega))).trans (Below.heap_setCell _ ⟨b0, 2, none⟩ (.slice a3 N k3) b (by simp only; omega))
        have hoa := own_of hT3.out.a (fun b e => hkp b (own_block_ge hT3.out.a b e))
        have hww : WordsIn okw w (([] : List (Value × Msg)) ++ [((.slice ma m.words.length mc, m) : Value × Msg)] ++ d2) := fun p hp => by
          rcases List.mem_append.1 hp with hp | hp
          · rcases List.mem_append.1 hp with hp | hp
            · exact hwo.out p (by rw [hd.out]; exact List.mem_append.2 (.inl hp))
            · rw [List.mem_singleton.1 hp]; exact hm.out
          · exact hwo.out p (by rw [hd.out]; exact List.mem_append.2 (.inr hp))
        exact bodyPost_ret (v := .tuple #[.agg #[.int .i64 ln, .int .i64 pl, (.slice a3 N k3)], .int .i64 0]) (by simp [results, Try.results59, go_sem, r0, r1, r2]) rfl ⟨(.slice a3 N k3), ([] : List (Value × Msg)) ++ [((.slice ma m.words.length mc, m) : Value × Msg)] ++ d2, rfl, by rw [hins.out]; simp, (MsgsAt.of_own hoa (hww.below hbF)).mono (fun b h _ => by have := hbWr.out.size; omega) (fun b h _ => h), Plain.own hoa, hbF⟩
      · skip
        by_cases hJc : J < cap
        · have hdrop := hid (show MsgsAt ok okw wt (.slice (some ⟨g, o + J * 5, none⟩) (ps.length - J) (cap - J)) d2 from (show ps.drop J = d2 by rw [hJd.out, hd.out, List.drop_left]) ▸ hAr.out.drop hJle.out)
          have hbd2 := hid (show ([] : List (Value × Msg)).length + ([] : List (Value × Msg)).length + 1 + d2.length < 1000000 by have := hJd.out; have := hpn.out; simp only [List.length_nil] at *; omega)
          have hne1 : b0 ≠ b0 + 1 + 1 := by omega
          have hne2 : b0 + 1 + 1 ≠ b0 := by omega
          go_wp2_with (first | (at_builtin; (refine Two.wpAs elMsg hT0.out rfl (.tmp 44) (.tmp 48) rfl rfl rfl hcut.out hbd.out ?_; intro v1 w1 hT1 hz1; rw [List.nil_append] at hT1; obtain ⟨⟨a1, k1, rfl⟩, -⟩ := hT1.shapes; have m0 := (hx1.out.below hT1.below).cell 0; have m1 := (hx1.out.below hT1.below).cell 1; have m2 := (hx1.out.below hT1.below).cell 2; have m3 := (hx1.out.below hT1.below).cell 3; have m4 := (hx1.out.below hT1.below).cell 4; have ml := (hx1.out.below hT1.below).lt; simp only [List.getElem?_cons_zero, List.getElem?_cons_succ] at m0 m1 m2 m3 m4; clear u0 u1 u2 ul q0 q1 q2 q3 q4 ql; have hT1 := hid hT1)) | (at_builtin; (refine Two.wpA elMsg (hT1.out.alloc _) rfl (.tmp 50) (.tmp 52) rfl rfl (y := (.slice ma m.words.length mc, m)) rfl (heap_at _ _ _ (by simp)) rfl (by simp [encM, Value.oneCell']) (by have := hbd.out; simp only [List.length_nil] at *; omega) (by omega) ?_; intro g2 k2 w2 hT2 hz2; have n2 := (hx0.out.below hT2.below).cell 2; have nl := (hx0.out.below hT2.below).lt; simp only [List.getElem?_cons_zero, List.getElem?_cons_succ] at n2; have hT2 := hid hT2; have hdrop2 := hid (hdrop.out.below hT2.out.below); clear m0 m1 m2 m3 m4 ml)) | (at_builtin; (refine Two.wpAs elMsg hT2.out rfl (.tmp 54) (.tmp 58) rfl rfl rfl hdrop2.out (by have := hbd2.out; simp only [List.length_nil, List.length_append, List.length_cons] at *; omega) ?_; intro v3 w3 hT3 hz3; obtain ⟨⟨a3, k3, rfl⟩, -⟩ := hT3.shapes; generalize hN : (([] : List (Value × Msg)) ++ [((.slice ma m.words.length mc, m) : Value × Msg)] ++ d2).length = N at hT3 ⊢; replace hN := hid hN; have p0 := (hx0.out.below hT3.below).cell 0; have p1 := (hx0.out.below hT3.below).cell 1; have p2 := (hx0.out.below hT3.below).cell 2; have plt := (hx0.out.below hT3.below).lt; have pf := (hx0.out.below hT3.below).frozen 2; have hp2 := hx2.out.below hT3.below; have s0 := hp2.cell 0; have s1 := hp2.cell 1; have s2 := hp2.cell 2; have sl := hp2.lt; have f0 := hp2.frozen 0; have f1 := hp2.frozen 1; have f2 := hp2.frozen 2; simp only [List.getElem?_cons_zero, List.getElem?_cons_succ] at p0 p1 p2 s0 s1 s2; have hT3 := hid hT3; replace hp2 := hid hp2)))
          have hq3 := ((((hp2.out.set_ne (a := ⟨b0, 2, none⟩) hne2 (.slice a3 N k3)).set 0 (.int .i64 ln)).set 1 (.int .i64 pl)).set 2 (.slice a3 N k3))
          have r0 := hq3.cell 0
          have r1 := hq3.cell 1
          have r2 := hq3.cell 2
          simp only [List.set_cons_zero, List.set_cons_succ, List.getElem?_cons_zero, List.getElem?_cons_succ] at r0 r1 r2
          have hbF : Below w.heap.size w _ := ((((Below.next hbWr.out hT3.out.below hbWr.out.size).setCell (p := ⟨b0, 2, none⟩) (by rw [hB0.out]; exact Nat.le_refl b0) (.slice a3 N k3)).setCell (p := ⟨b0 + 1 + 1, 0, none⟩) (by rw [hB0.out]; exact Nat.le_succ_of_le (Nat.le_succ b0)) (.int .i64 ln)).setCell (p := ⟨b0 + 1 + 1, 1, none⟩) (by rw [hB0.out]; exact Nat.le_succ_of_le (Nat.le_succ b0)) (.int .i64 pl)).setCell (p := ⟨b0 + 1 + 1, 2, none⟩) (by rw [hB0.out]; exact Nat.le_succ_of_le (Nat.le_succ b0)) (.slice a3 N k3)
          have hkp : ∀ b, wt.heap.size ≤ b → _ = w3.heap[b]? := fun b hb => (((Below.heap_setCell _ ⟨b0 + 1 + 1, 2, none⟩ (.slice a3 N k3) b (by simp only; omega)).trans (Below.heap_setCell _ ⟨b0 + 1 + 1, 1, none⟩ (.int .i64 pl) b (by simp only; omega))).trans (Below.heap_setCell _ ⟨b0 + 1 + 1, 0, none⟩ (.int .i64 ln) b (by simp only; omega))).trans (Below.heap_setCell _ ⟨b0, 2, none⟩ (.slice a3 N k3) b (by simp only; omega))
          have hoa := own_of hT3.out.a (fun b e => hkp b (own_block_ge hT3.out.a b e))
          have hww : WordsIn okw w (([] : List (Value × Msg)) ++ [((.slice ma m.words.length mc, m) : Value × Msg)] ++ d2) := fun p hp => by
            rcases List.mem_append.1 hp with hp | hp
            · rcases List.mem_append.1 hp with hp | hp
              · exact hwo.out p (by rw [hd.out]; exact List.mem_append.2 (.inl hp))
              · rw [List.mem_singleton.1 hp]; exact hm.out
            · exact hwo.out p (by rw [hd.out]; exact List.mem_append.2 (.inr hp))
          exact bodyPost_ret (v := .tuple #[.agg #[.int .i64 ln, .int .i64 pl, (.slice a3 N k3)], .int .i64 0]) (by simp [results, Try.results59, go_sem, r0, r1, r2]) rfl ⟨(.slice a3 N k3), ([] : List (Value × Msg)) ++ [((.slice ma m.words.length mc, m) : Value × Msg)] ++ d2, rfl, by rw [hins.out]; simp, (MsgsAt.of_own hoa (hww.below hbF)).mono (fun b h _ => by have := hbWr.out.size; omega) (fun b h _ => h), Plain.own hoa, hbF⟩
        · have hcj : cap - J = 0 := by omega
          have hnj : ps.length - J = 0 := by omega
          have hdrop := hid (show MsgsAt ok okw wt (.slice (some ⟨g, o, none⟩) 0 0) d2 from (show ps.drop J = d2 by rw [hJd.out, hd.out, List.drop_left]) ▸ (show ps.drop J = [] from List.drop_eq_nil_of_le (by omega)).symm ▸ ⟨some ⟨g, o, none⟩, 0, rfl, ⟨Nat.le_refl _, by unfold maxLen; omega, fun h => rfl⟩, WordsIn.nil _ _, .inl rfl⟩)
          have hbd2 := hid (show ([] : List (Value × Msg)).length + ([] : List (Value × Msg)).length + 1 + d2.length < 1000000 by have := hJd.out; have := hpn.out; simp only [List.length_nil] at *; omega)
          have hne1 : b0 ≠ b0 + 1 + 1 := by omega
          have hne2 : b0 + 1 + 1 ≠ b0 := by omega
          go_wp2_with (first | (at_builtin; (refine Two.wpAs elMsg hT0.out rfl (.tmp 44) (.tmp 48) rfl rfl rfl hcut.out hbd.out ?_; intro v1 w1 hT1 hz1; rw [List.nil_append] at hT1; obtain ⟨⟨a1, k1, rfl⟩, -⟩ := hT1.shapes; have m0 := (hx1.out.below hT1.below).cell 0; have m1 := (hx1.out.below hT1.below).cell 1; have m2 := (hx1.out.below hT1.below).cell 2; have m3 := (hx1.out.below hT1.below).cell 3; have m4 := (hx1.out.below hT1.below).cell 4; have ml := (hx1.out.below hT1.below).lt; simp only [List.getElem?_cons_zero, List.getElem?_cons_succ] at m0 m1 m2 m3 m4; clear u0 u1 u2 ul q0 q1 q2 q3 q4 ql; have hT1 := hid hT1)) | (at_builtin; (refine Two.wpA elMsg (hT1.out.alloc _) rfl (.tmp 50) (.tmp 52) rfl rfl (y := (.slice ma m.words.length mc, m)) rfl (heap_at _ _ _ (by simp)) rfl (by simp [encM, Value.oneCell']) (by have := hbd.out; simp only [List.length_nil] at *; omega) (by omega) ?_; intro g2 k2 w2 hT2 hz2; have n2 := (hx0.out.below hT2.below).cell 2; have nl := (hx0.out.below hT2.below).lt; simp only [List.getElem?_cons_zero, List.getElem?_cons_succ] at n2; have hT2 := hid hT2; have hdrop2 := hid (hdrop.out.below hT2.out.below); clear m0 m1 m2 m3 m4 ml)) | (at_builtin; (refine Two.wpAs elMsg hT2.out rfl (.tmp 54) (.tmp 58) rfl rfl rfl hdrop2.out (by have := hbd2.out; simp only [List.length_nil, List.length_append, List.length_cons] at *; omega) ?_; intro v3 w3 hT3 hz3; obtain ⟨⟨a3, k3, rfl⟩, -⟩ := hT3.shapes; generalize hN : (([] : List (Value × Msg)) ++ [((.slice ma m.words.length mc, m) : Value × Msg)] ++ d2).length = N at hT3 ⊢; replace hN := hid hN; have p0 := (hx0.out.below hT3.below).cell 0; have p1 := (hx0.out.below hT3.below).cell 1; have p2 := (hx0.out.below hT3.below).cell 2; have plt := (hx0.out.below hT3.below).lt; have pf := (hx0.out.below hT3.below).frozen 2; have hp2 := hx2.out.below hT3.below; have s0 := hp2.cell 0; have s1 := hp2.cell 1; have s2 := hp2.cell 2; have sl := hp2.lt; have f0 := hp2.frozen 0; have f1 := hp2.frozen 1; have f2 := hp2.frozen 2; simp only [List.getElem?_cons_zero, List.getElem?_cons_succ] at p0 p1 p2 s0 s1 s2; have hT3 := hid hT3; replace hp2 := hid hp2)))
          have hq3 := ((((hp2.out.set_ne (a := ⟨b0, 2, none⟩) hne2 (.slice a3 N k3)).set 0 (.int .i64 ln)).set 1 (.int .i64 pl)).set 2 (.slice a3 N k3))
          have r0 := hq3.cell 0
          have r1 := hq3.cell 1
          have r2 := hq3.cell 2
          simp only [List.set_cons_zero, List.set_cons_succ, List.getElem?_cons_zero, List.getElem?_cons_succ] at r0 r1 r2
          have hbF : Below w.heap.size w _ := ((((Below.next hbWr.out hT3.out.below hbWr.out.size).setCell (p := ⟨b0, 2, none⟩) (by rw [hB0.out]; exact Nat.le_refl b0) (.slice a3 N k3)).setCell (p := ⟨b0 + 1 + 1, 0, none⟩) (by rw [hB0.out]; exact Nat.le_succ_of_le (Nat.le_succ b0)) (.int .i64 ln)).setCell (p := ⟨b0 + 1 + 1, 1, none⟩) (by rw [hB0.out]; exact Nat.le_succ_of_le (Nat.le_succ b0)) (.int .i64 pl)).setCell (p := ⟨b0 + 1 + 1, 2, none⟩) (by rw [hB0.out]; exact Nat.le_succ_of_le (Nat.le_succ b0)) (.slice a3 N k3)
          have hkp : ∀ b, wt.heap.size ≤ b → _ = w3.heap[b]? := fun b hb => (((Below.heap_setCell _ ⟨b0 + 1 + 1, 2, none⟩ (.slice a3 N k3) b (by simp only; omega)).trans (Below.heap_setCell _ ⟨b0 + 1 + 1, 1, none⟩ (.int .i64 pl) b (by simp only; omega))).trans (Below.heap_setCell _ ⟨b0 + 1 + 1, 0, none⟩ (.int .i64 ln) b (by simp only; omega))).trans (Below.heap_setCell _ ⟨b0, 2, none⟩ (.slice a3 N k3) b (by simp only; omega))
          have hoa := own_of hT3.out.a (fun b e => hkp b (own_block_ge hT3.out.a b e))
          have hww : WordsIn okw w (([] : List (Value × Msg)) ++ [((.slice ma m.words.length mc, m) : Value × Msg)] ++ d2) := fun p hp => by
            rcases List.mem_append.1 hp with hp | hp
            · rcases List.mem_append.1 hp with hp | hp
              · exact hwo.out p (by rw [hd.out]; exact List.mem_append.2 (.inl hp))
              · rw [List.mem_singleton.1 hp]; exact hm.out
            · exact hwo.out p (by rw [hd.out]; exact List.mem_append.2 (.inr hp))
          exact bodyPost_ret (v := .tuple #[.agg #[.int .i64 ln, .int .i64 pl, (.slice a3 N k3)], .int .i64 0]) (by simp [results, Try.results59, go_sem, r0, r1, r2]) rfl ⟨(.slice a3 N k3), ([] : List (Value × Msg)) ++ [((.slice ma m.words.length mc, m) : Value × Msg)] ++ d2, rfl, by rw [hins.out]; simp, (MsgsAt.of_own hoa (hww.below hbF)).mono (fun b h _ => by have := hbWr.out.size; omega) (fun b h _ => h), Plain.own hoa, hbF⟩
    · obtain ⟨J', hJJ⟩ : ∃ j, J = j + 1 := ⟨J - 1, by simp at hJ; omega⟩
      have hJ' : J' = d'.length := by simp at hJ; omega
      have hj2 : (J : Int) - 1 < ps.length := by simp at hJ hpn; omega
      have hj3 : (0 : Int) ≤ (J : Int) - 1 := by omega
      have hj4 : 1 ≤ J := by omega
      have hj6 : (1 : Int) ≤ J := by omega
      have hj8 : J ≤ ps.length := by omega
      have hj7 : (J : Int) ≤ ps.length := by omega
      have hg0 : decide (0 < (J : Int)) = true := by simp; omega
      have hg1 : 0 < J := by omega
      have hj5 : ((J : Int) - 1).toNat = J' := by omega
      have hwr : IntKind.i64.wrap ((J : Int) - 1) = (J : Int) - 1 := IntWalk.i64_in _ (by omega)
      have hJn : J' < ps.length := by simp at hJ hpn; omega
      obtain ⟨g, o, a, c, rfl, -, hpe, hat, -⟩ := hAr.out.at5 hJn
      have hl : ps[J'] = l := by subst hJ'; simp [hd]
      rw [hl] at hpe hat
      obtain ⟨lv, lm⟩ := l
      simp only [Prod.mk.injEq, and_true] at hpe
      subst hpe
      simp only at hat
      obtain ⟨x0, x1, x2, x3, x4, hxl⟩ := hat
      have hJle := hid (show J ≤ ps.length by omega)
      have hx : ps.map Prod.snd = d'.map Prod.snd ++ lm :: d2.map Prod.snd := by rw [hd]; simp
      replace hx := hid hx
      replace hJJ := hid hJJ
      replace hJ' := hid hJ'
      replace hJ := hid hJ
      replace hd := hid hd
      replace hgt := hid hgt
      replace hpn := hid hpn
      replace hgj := hid hgj
      by_cases hlt : m.lane < lm.lane
      · have hdec : decide (m.lane < lm.lane) = true := decide_eq_true hlt
        go_upto_region 6 with fail
        go_region_held3 (fun W => W.cell? ⟨b0, 0, none⟩ = some (.int .i64 ln) ∧ W.cell? ⟨b0, 1, none⟩ = some (.int .i64 pl) ∧ W.cell? ⟨b0, 2, none⟩ = some (.slice (some ⟨g, o, none⟩) ps.length cap) ∧ W.cell? ⟨b0 + 1, 1, none⟩ = some (.int .i64 m.lane) ∧ W.cell? ⟨g, o + J' * 5 + 1, none⟩ = some (.int .i64 lm.lane))
          (first | go_keep | ((try dsimp only); (repeat' apply And.intro) <;> go_keep))
          (fail)
        go_wp2
        go_roundg d'.length
        case rel => exact ⟨d', (.slice a lm.words.length c, lm) :: d2, J', by rw [hd.out]; simp, hJ'.out, (fun q hq => by rcases List.mem_cons.1 hq with rfl | hq; exact hlt; exact hgt.out q hq), (by have := hJJ.out; congr 1; omega), rfl, hB'.out.drew⟩
        case measure => have := hgj.out; simp at this; omega
      · have hdec : decide (m.lane < lm.lane) = false := decide_eq_false hlt
        go_upto_region 6 with fail
        obtain ⟨D, hD⟩ : ∃ D : List (Value × Msg), D = d' ++ [(.slice a lm.words.length c, lm)] := ⟨_, rfl⟩
        replace hD := hid hD
        have hins := hid (show insL lane1 m (ps.map Prod.snd) = D.map Prod.snd ++ m :: d2.map Prod.snd by rw [hD.out, List.map_append]; exact (ins_at (S := ps.map Prod.snd) (d1 := d'.map Prod.snd ++ [lm]) (d2 := d2.map Prod.snd) (e := m) hsrt.out (by rw [hd.out]; simp) (fun p hp => by obtain ⟨q, hq, rfl⟩ := List.mem_map.1 hp; exact hgt.out q hq) (.inr ⟨_, lm, rfl, by unfold lane1; omega⟩)))
        have hJd := hid (show J = D.length by rw [hD.out]; exact hJ.out)
        replace hpn := hid (show ps.length = D.length + d2.length by rw [hD.out]; exact hpn.out)
        replace hd := hid (show ps = D ++ d2 by rw [hD.out]; exact hd.out)
        go_region_held3 (fun W => W.cell? ⟨b0, 0, none⟩ = some (.int .i64 ln) ∧ W.cell? ⟨b0, 1, none⟩ = some (.int .i64 pl) ∧ W.cell? ⟨b0, 2, none⟩ = some (.slice (some ⟨g, o, none⟩) ps.length cap) ∧ W.cell? ⟨b0 + 1, 1, none⟩ = some (.int .i64 m.lane) ∧ W.cell? ⟨g, o + J' * 5 + 1, none⟩ = some (.int .i64 lm.lane))
          (first | go_keep | ((try dsimp only); (repeat' apply And.intro) <;> go_keep))
          (fail)
        go_upto_region 8 with fail
        have hBt := hB'.out.drew
        clear hl hj2 hj3 hj4 hj6 hj8 hj7 hg0 hg1 hj5 hwr hJn x0 x1 x2 x3 x4 hxl hdec
        clear u0 u1 u2 ul q0 q1 q2 q3 q4 ql hx0 hx1 hx2 hAr hbWr hz8
        generalize wr.drew = wt at hBt ⊢
        have hx0 := hid (hpp0.out.below hBt)
        have hx1 := hid (hpp1.out.below hBt)
        have hx2 := hid (hpp2.out.below hBt)
        have hAr := hid (hA7.out.below hBt)
        have hbWr := hid (Below.next hbW.out hBt hbW.out.size)
        have hz8 := Nat.lt_of_lt_of_le hz7 hBt.size
        have hT0 := hid (Two.start (α := Value × Msg) (β := Value × Msg) encM encM 37 37 5 5 (Below.refl wt.heap.size wt) (Nat.le_refl _))
        have u0 := hx0.out.cell 0
        have u1 := hx0.out.cell 1
        have u2 := hx0.out.cell 2
        have ul := hx0.out.lt
        have q0 := hx1.out.cell 0
        have q1 := hx1.out.cell 1
        have q2 := hx1.out.cell 2
        have q3 := hx1.out.cell 3
        have q4 := hx1.out.cell 4
        have ql := hx1.out.lt
        simp only [List.getElem?_cons_zero, List.getElem?_cons_succ] at u0 u1 u2 q0 q1 q2 q3 q4
        have hJcap : J ≤ cap := by have := hJle.out; omega
        have hJn : J ≤ ps.length := hJle.out
        have hJcapI : (J : Int) ≤ cap := by omega
        have hJnI : (J : Int) ≤ ps.length := by omega
        have hcut := hid (show MsgsAt ok okw wt (.slice (some ⟨g, o, none⟩) J cap) D from (show ps.take J = D by rw [hJd.out, hd.out, List.take_left]) ▸ hAr.out.cutTo hJle.out)
        have hbd := hid (show ([] : List (Value × Msg)).length + (D : List (Value × Msg)).length < 1000000 by have := hJd.out; have := hJle.out; simp only [List.length_nil] at *; omega)
        by_cases hJc : J < cap
        · have hdrop := hid (show MsgsAt ok okw wt (.slice (some ⟨g, o + J * 5, none⟩) (ps.length - J) (cap - J)) d2 from (show ps.drop J = d2 by rw [hJd.out, hd.out, List.drop_left]) ▸ hAr.out.drop hJle.out)
          have hbd2 := hid (show ([] : List (Value × Msg)).length + (D : List (Value × Msg)).length + 1 + d2.length < 1000000 by have := hJd.out; have := hpn.out; simp only [List.length_nil] at *; omega)
          have hne1 : b0 ≠ b0 + 1 + 1 := by omega
          have hne2 : b0 + 1 + 1 ≠ b0 := by omega
          go_wp2_with (first | (at_builtin; (refine Two.wpAs elMsg hT0.out rfl (.tmp 44) (.tmp 48) rfl rfl rfl hcut.out hbd.out ?_; intro v1 w1 hT1 hz1; rw [List.nil_append] at hT1; obtain ⟨⟨a1, k1, rfl⟩, -⟩ := hT1.shapes; have m0 := (hx1.out.below hT1.below).cell 0; have m1 := (hx1.out.below hT1.below).cell 1; have m2 := (hx1.out.below hT1.below).cell 2; have m3 := (hx1.out.below hT1.below).cell 3; have m4 := (hx1.out.below hT1.below).cell 4; have ml := (hx1.out.below hT1.below).lt; simp only [List.getElem?_cons_zero, List.getElem?_cons_succ] at m0 m1 m2 m3 m4; clear u0 u1 u2 ul q0 q1 q2 q3 q4 ql; have hT1 := hid hT1)) | (at_builtin; (refine Two.wpA elMsg (hT1.out.alloc _) rfl (.tmp 50) (.tmp 52) rfl rfl (y := (.slice ma m.words.length mc, m)) rfl (heap_at _ _ _ (by simp)) rfl (by simp [encM, Value.oneCell']) (by have := hbd.out; simp only [List.length_nil] at *; omega) (by omega) ?_; intro g2 k2 w2 hT2 hz2; have n2 := (hx0.out.below hT2.below).cell 2; have nl := (hx0.out.below hT2.below).lt; simp only [List.getElem?_cons_zero, List.getElem?_cons_succ] at n2; have hT2 := hid hT2; have hdrop2 := hid (hdrop.out.below hT2.out.below); clear m0 m1 m2 m3 m4 ml)) | (at_builtin; (refine Two.wpAs elMsg hT2.out rfl (.tmp 54) (.tmp 58) rfl rfl rfl hdrop2.out (by have := hbd2.out; simp only [List.length_nil, List.length_append, List.length_cons] at *; omega) ?_; intro v3 w3 hT3 hz3; obtain ⟨⟨a3, k3, rfl⟩, -⟩ := hT3.shapes; generalize hN : ((D : List (Value × Msg)) ++ [((.slice ma m.words.length mc, m) : Value × Msg)] ++ d2).length = N at hT3 ⊢; replace hN := hid hN; have p0 := (hx0.out.below hT3.below).cell 0; have p1 := (hx0.out.below hT3.below).cell 1; have p2 := (hx0.out.below hT3.below).cell 2; have plt := (hx0.out.below hT3.below).lt; have pf := (hx0.out.below hT3.below).frozen 2; have hp2 := hx2.out.below hT3.below; have s0 := hp2.cell 0; have s1 := hp2.cell 1; have s2 := hp2.cell 2; have sl := hp2.lt; have f0 := hp2.frozen 0; have f1 := hp2.frozen 1; have f2 := hp2.frozen 2; simp only [List.getElem?_cons_zero, List.getElem?_cons_succ] at p0 p1 p2 s0 s1 s2; have hT3 := hid hT3; replace hp2 := hid hp2)))
          have hq3 := ((((hp2.out.set_ne (a := ⟨b0, 2, none⟩) hne2 (.slice a3 N k3)).set 0 (.int .i64 ln)).set 1 (.int .i64 pl)).set 2 (.slice a3 N k3))
          have r0 := hq3.cell 0
          have r1 := hq3.cell 1
          have r2 := hq3.cell 2
          simp only [List.set_cons_zero, List.set_cons_succ, List.getElem?_cons_zero, List.getElem?_cons_succ] at r0 r1 r2
          have hbF : Below w.heap.size w _ := ((((Below.next hbWr.out hT3.out.below hbWr.out.size).setCell (p := ⟨b0, 2, none⟩) (by rw [hB0.out]; exact Nat.le_refl b0) (.slice a3 N k3)).setCell (p := ⟨b0 + 1 + 1, 0, none⟩) (by rw [hB0.out]; exact Nat.le_succ_of_le (Nat.le_succ b0)) (.int .i64 ln)).setCell (p := ⟨b0 + 1 + 1, 1, none⟩) (by rw [hB0.out]; exact Nat.le_succ_of_le (Nat.le_succ b0)) (.int .i64 pl)).setCell (p := ⟨b0 + 1 + 1, 2, none⟩) (by rw [hB0.out]; exact Nat.le_succ_of_le (Nat.le_succ b0)) (.slice a3 N k3)
          have hkp : ∀ b, wt.heap.size ≤ b → _ = w3.heap[b]? := fun b hb => (((Below.heap_setCell _ ⟨b0 + 1 + 1, 2, none⟩ (.slice a3 N k3) b (by simp only; omega)).trans (Below.heap_setCell _ ⟨b0 + 1 + 1, 1, none⟩ (.int .i64 pl) b (by simp only; omega))).trans (Below.heap_setCell _ ⟨b0 + 1 + 1, 0, none⟩ (.int .i64 ln) b (by simp only; omega))).trans (Below.heap_setCell _ ⟨b0, 2, none⟩ (.slice a3 N k3) b (by simp only; omega))
          have hoa := own_of hT3.out.a (fun b e => hkp b (own_block_ge hT3.out.a b e))
          have hww : WordsIn okw w ((D : List (Value × Msg)) ++ [((.slice ma m.words.length mc, m) : Value × Msg)] ++ d2) := fun p hp => by
            rcases List.mem_append.1 hp with hp | hp
            · rcases List.mem_append.1 hp with hp | hp
              · exact hwo.out p (by rw [hd.out]; exact List.mem_append.2 (.inl hp))
              · rw [List.mem_singleton.1 hp]; exact hm.out
            · exact hwo.out p (by rw [hd.out]; exact List.mem_append.2 (.inr hp))
          exact bodyPost_ret (v := .tuple #[.agg #[.int .i64 ln, .int .i64 pl, (.slice a3 N k3)], .int .i64 0]) (by simp [results, Try.results59, go_sem, r0, r1, r2]) rfl ⟨(.slice a3 N k3), (D : List (Value × Msg)) ++ [((.slice ma m.words.length mc, m) : Value × Msg)] ++ d2, rfl, by rw [hins.out]; simp, (MsgsAt.of_own hoa (hww.below hbF)).mono (fun b h _ => by have := hbWr.out.size; omega) (fun b h _ => h), Plain.own hoa, hbF⟩
        · have hcj : cap - J = 0 := by omega
          have hnj : ps.length - J = 0 := by omega
          have hdrop := hid (show MsgsAt ok okw wt (.slice (some ⟨g, o, none⟩) 0 0) d2 from (show ps.drop J = d2 by rw [hJd.out, hd.out, List.drop_left]) ▸ (show ps.drop J = [] from List.drop_eq_nil_of_le (by omega)).symm ▸ ⟨some ⟨g, o, none⟩, 0, rfl, ⟨Nat.le_refl _, by unfold maxLen; omega, fun h => rfl⟩, WordsIn.nil _ _, .inl rfl⟩)
          have hbd2 := hid (show ([] : List (Value × Msg)).length + (D : List (Value × Msg)).length + 1 + d2.length < 1000000 by have := hJd.out; have := hpn.out; simp only [List.length_nil] at *; omega)
          have hne1 : b0 ≠ b0 + 1 + 1 := by omega
          have hne2 : b0 + 1 + 1 ≠ b0 := by omega
          go_wp2_with (first | (at_builtin; (refine Two.wpAs elMsg hT0.out rfl (.tmp 44) (.tmp 48) rfl rfl rfl hcut.out hbd.out ?_; intro v1 w1 hT1 hz1; rw [List.nil_append] at hT1; obtain ⟨⟨a1, k1, rfl⟩, -⟩ := hT1.shapes; have m0 := (hx1.out.below hT1.below).cell 0; have m1 := (hx1.out.below hT1.below).cell 1; have m2 := (hx1.out.below hT1.below).cell 2; have m3 := (hx1.out.below hT1.below).cell 3; have m4 := (hx1.out.below hT1.below).cell 4; have ml := (hx1.out.below hT1.below).lt; simp only [List.getElem?_cons_zero, List.getElem?_cons_succ] at m0 m1 m2 m3 m4; clear u0 u1 u2 ul q0 q1 q2 q3 q4 ql; have hT1 := hid hT1)) | (at_builtin; (refine Two.wpA elMsg (hT1.out.alloc _) rfl (.tmp 50) (.tmp 52) rfl rfl (y := (.slice ma m.words.length mc, m)) rfl (heap_at _ _ _ (by simp)) rfl (by simp [encM, Value.oneCell']) (by have := hbd.out; simp only [List.length_nil] at *; omega) (by omega) ?_; intro g2 k2 w2 hT2 hz2; have n2 := (hx0.out.below hT2.below).cell 2; have nl := (hx0.out.below hT2.below).lt; simp only [List.getElem?_cons_zero, List.getElem?_cons_succ] at n2; have hT2 := hid hT2; have hdrop2 := hid (hdrop.out.below hT2.out.below); clear m0 m1 m2 m3 m4 ml)) | (at_builtin; (refine Two.wpAs elMsg hT2.out rfl (.tmp 54) (.tmp 58) rfl rfl rfl hdrop2.out (by have := hbd2.out; simp only [List.length_nil, List.length_append, List.length_cons] at *; omega) ?_; intro v3 w3 hT3 hz3; obtain ⟨⟨a3, k3, rfl⟩, -⟩ := hT3.shapes; generalize hN : ((D : List (Value × Msg)) ++ [((.slice ma m.words.length mc, m) : Value × Msg)] ++ d2).length = N at hT3 ⊢; replace hN := hid hN; have p0 := (hx0.out.below hT3.below).cell 0; have p1 := (hx0.out.below hT3.below).cell 1; have p2 := (hx0.out.below hT3.below).cell 2; have plt := (hx0.out.below hT3.below).lt; have pf := (hx0.out.below hT3.below).frozen 2; have hp2 := hx2.out.below hT3.below; have s0 := hp2.cell 0; have s1 := hp2.cell 1; have s2 := hp2.cell 2; have sl := hp2.lt; have f0 := hp2.frozen 0; have f1 := hp2.frozen 1; have f2 := hp2.frozen 2; simp only [List.getElem?_cons_zero, List.getElem?_cons_succ] at p0 p1 p2 s0 s1 s2; have hT3 := hid hT3; replace hp2 := hid hp2)))
          have hq3 := ((((hp2.out.set_ne (a := ⟨b0, 2, none⟩) hne2 (.slice a3 N k3)).set 0 (.int .i64 ln)).set 1 (.int .i64 pl)).set 2 (.slice a3 N k3))
          have r0 := hq3.cell 0
          have r1 := hq3.cell 1
          have r2 := hq3.cell 2
          simp only [List.set_cons_zero, List.set_cons_succ, List.getElem?_cons_zero, List.getElem?_cons_succ] at r0 r1 r2
          have hbF : Below w.heap.size w _ := ((((Below.next hbWr.out hT3.out.below hbWr.out.size).setCell (p := ⟨b0, 2, none⟩) (by rw [hB0.out]; exact Nat.le_refl b0) (.slice a3 N k3)).setCell (p := ⟨b0 + 1 + 1, 0, none⟩) (by rw [hB0.out]; exact Nat.le_succ_of_le (Nat.le_succ b0)) (.int .i64 ln)).setCell (p := ⟨b0 + 1 + 1, 1, none⟩) (by rw [hB0.out]; exact Nat.le_succ_of_le (Nat.le_succ b0)) (.int .i64 pl)).setCell (p := ⟨b0 + 1 + 1, 2, none⟩) (by rw [hB0.out]; exact Nat.le_succ_of_le (Nat.le_succ b0)) (.slice a3 N k3)
          have hkp : ∀ b, wt.heap.size ≤ b → _ = w3.heap[b]? := fun b hb => (((Below.heap_setCell _ ⟨b0 + 1 + 1, 2, none⟩ (.slice a3 N k3) b (by simp only; omega)).trans (Below.heap_setCell _ ⟨b0 + 1 + 1, 1, none⟩ (.int .i64 pl) b (by simp only; omega))).trans (Below.heap_setCell _ ⟨b0 + 1 + 1, 0, none⟩ (.int .i64 ln) b (by simp only; omega))).trans (Below.heap_setCell _ ⟨b0, 2, none⟩ (.slice a3 N k3) b (by simp only; omega))
          have hoa := own_of hT3.out.a (fun b e => hkp b (own_block_ge hT3.out.a b e))
          have hww : WordsIn okw w ((D : List (Value × Msg)) ++ [((.slice ma m.words.length mc, m) : Value × Msg)] ++ d2) := fun p hp => by
            rcases List.mem_append.1 hp with hp | hp
            · rcases List.mem_append.1 hp with hp | hp
              · exact hwo.out p (by rw [hd.out]; exact List.mem_append.2 (.inl hp))
              · rw [List.mem_singleton.1 hp]; exact hm.out
            · exact hwo.out p (by rw [hd.out]; exact List.mem_append.2 (.inr hp))
          exact bodyPost_ret (v := .tuple #[.agg #[.int .i64 ln, .int .i64 pl, (.slice a3 N k3)], .int .i64 0]) (by simp [results, Try.results59, go_sem, r0, r1, r2]) rfl ⟨(.slice a3 N k3), (D : List (Value × Msg)) ++ [((.slice ma m.words.length mc, m) : Value × Msg)] ++ d2, rfl, by rw [hins.out]; simp, (MsgsAt.of_own hoa (hww.below hbF)).mono (fun b h _ => by have := hbWr.out.size; omega) (fun b h _ => h), Plain.own hoa, hbF⟩
end
end Go.Proofs.Ytealopempjempaa.Rl
