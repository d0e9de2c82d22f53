/- DERIVED. The walk over the port's Ask. -/
import Derived.Test.YtnlmkllhmldgiaaQueueC
import Derived.Test.YtnlmkllhmldgiaaQueueD
namespace Go.Proofs.Ytnlmkllhmldgiaa.Qu
set_option linter.unusedVariables false
set_option linter.unusedSimpArgs false
open Go.RowKit Go.Maps Go.Proofs.Ytnlmkllhmldgiaa.K Go.Proofs.Ytnlmkllhmldgiaa.Lb Go.Proofs.Ytnlmkllhmldgiaa.Wh
/-- A message that is nothing. -/
def zm : Value × Msg := (.slice none 0 0, ⟨[], 0, 0, 0, 0⟩)
section
variable {w : World} {base pb wb mb : Nat} {hold : Int} {lv rv : Value} {ps : List (Value × Msg)} {xs : List Int} {n : Nat} {D : DataW Unit} {s : Int}
theorem askWaits_c (h : PortAt w base pb wb mb hold lv rv ps xs n D s) {x : Int} (u now : Int) (hx : x ∈ xs) :
    Calls Try.prog 10 #[.pointer (some ⟨pb, 0, none⟩), .int .i64 x, .int .i64 u, .int .i64 now] w fun e w' => e = .returned (.tuple #[aggM zm, .int .i64 1]) ∧ Below w.heap.size w w' := by
  have hb1 := (Below.refl w.heap.size w).alloc (Nat.le_refl _) (.cells #[.slice none 0 0, .int .i64 0, .int .i64 0, .int .i64 0, .int .i64 0] 27)
  have hP1 := h.below hb1
  have hin := hid (show decide (x ∈ xs) = true by simpa using hx)
  have h := hid h
  unfold aggM zm
  simp only
  go_enter Try.func10, Try.ntmps10
  go_wp2_with (first | (go_at_call 19; (with_reducible refine (waits_c hP1 x).mono ?_); rw [hin.out]; rintro e w' ⟨rfl, rfl⟩))
  refine bodyPost_ret (v := .tuple #[.agg #[.slice none 0 0, .int .i64 0, .int .i64 0, .int .i64 0, .int .i64 0], .int .i64 1]) (by simp [results, Try.results10, go_sem]) rfl ⟨rfl, ?_⟩
  exact hb1
/-- A port anew, out of its parts behind a call; its messages are among those that were. -/
theorem PortAt.anew {F : World} (h : PortAt w base pb wb mb hold lv rv ps xs n D s) {lv' rv' : Value} {ps' : List (Value × Msg)} {xs' : List Int} {n' : Nat} {D' : DataW Unit} {s' : Int} (hC : Chg (PMut pb wb mb lv rv) w F) (hat : pts F pb [.pointer (some ⟨wb, 0, none⟩), .int .i64 hold, lv', rv'] 72) (hw : WheelAt F wb mb n' D' s')
    (hl : F.ownsRow base 27 5 lv' ps'.length (flat encM ps')) (hr : F.ownsRow base 3 1 rv' xs'.length (xs'.map (Value.int .i64))) (hsub : ∀ p ∈ ps', p ∈ ps) (hlv : ∀ c, lv'.ownBlock = some c → lv.ownBlock = some c ∨ w.heap.size ≤ c) (hrv : ∀ c, rv'.ownBlock = some c → rv.ownBlock = some c ∨ w.heap.size ≤ c) :
    PortAt F base pb wb mb hold lv' rv' ps' xs' n' D' s' := by
  refine ⟨hat, hw, hl, hr, ?_, h.ge⟩
  have h0 := h.words.sub hsub
  refine (h0.kept hC.size (fun b hb hlt => hC.block b hlt hb)).mono' (fun b hb hlt hm => hb ?_) h0
  rcases hm with hm | hm | hm | hm | hm
  · exact .inl hm
  · exact .inr (.inl hm)
  · exact .inr (.inr (.inl hm))
  · rcases hlv b hm with h1 | h1
    · exact .inr (.inr (.inr (.inl h1)))
    · omega
  · rcases hrv b hm with h1 | h1
    · exact .inr (.inr (.inr (.inr h1)))
    · omega
theorem askLate_c (h : PortAt w base pb wb mb hold lv rv [] xs n D s) {x : Int} (u now : Int) (hx : x ∉ xs) (hlate : lateT now u = true) :
    Calls Try.prog 10 #[.pointer (some ⟨pb, 0, none⟩), .int .i64 x, .int .i64 u, .int .i64 now] w fun e w' => e = .returned (.tuple #[aggM zm, .int .i64 2]) ∧ Below w.heap.size w w' := by
  have hb1 := (Below.refl w.heap.size w).alloc (Nat.le_refl _) (.cells #[.slice none 0 0, .int .i64 0, .int .i64 0, .int .i64 0, .int .i64 0] 27)
  have hP1 := h.below hb1
  obtain ⟨c0, c1, c2, c3, f2, f3, hpl'⟩ := hP1.cells
  obtain ⟨al, cl, rfl⟩ := own_shape h.l
  have hin := hid (show decide (x ∈ xs) = false by simpa using hx)
  have hlate := hid hlate
  have h := hid h
  have hP1 := hid hP1
  simp only [List.length_nil] at *
  unfold aggM zm
  simp only
  go_enter Try.func10, Try.ntmps10
  go_wp2_with (first | (go_at_call 19; (with_reducible refine (waits_c hP1.out x).mono ?_); rw [hin.out]; rintro e w' ⟨rfl, rfl⟩) | (go_at_call 34; (with_reducible refine (late_c _ now u).mono ?_); rw [hlate.out]; rintro e w' ⟨rfl, rfl⟩))
  refine bodyPost_ret (v := .tuple #[.agg #[.slice none 0 0, .int .i64 0, .int .i64 0, .int .i64 0, .int .i64 0], .int .i64 2]) (by simp [results, Try.results10, go_sem]) rfl ⟨rfl, hb1⟩
theorem askHas_c {p : Value × Msg} {r : List (Value × Msg)} (h : PortAt w base pb wb mb hold lv rv (p :: r) [] n D s) (x u now : Int) :
    Calls Try.prog 10 #[.pointer (some ⟨pb, 0, none⟩), .int .i64 x, .int .i64 u, .int .i64 now] w fun e w' => e = .returned (.tuple #[aggM p, .int .i64 0]) ∧ ∃ lv', PortAt w' base pb wb mb hold lv' rv r [] n D s ∧ Chg (PMut pb wb mb lv rv) w w' ∧ IntsAt (fun b => ¬ PMut pb wb mb lv rv b) w p.1 p.2.words ∧ (∀ c, lv'.ownBlock = some c → lv.ownBlock = some c) := by
  have hwp := h.words p (by simp)
  obtain ⟨asv, csv, hsv⟩ := hwp.shape
  obtain ⟨sv, m⟩ := p
  simp only at hsv hwp
  subst hsv
  have hone := (h.words.sub (qs := r) (fun p hp => by simp [hp])).one
  have hap := hid h.apart
  obtain ⟨gl, cl, ex, rfl, hbg, hpg, hnc, hcm⟩ := own_split h.l (by simp)
  obtain ⟨ar, cr, rfl⟩ := own_shape h.row
  have hb1 := (Below.refl w.heap.size w).alloc (Nat.le_refl _) (.cells #[.slice none 0 0, .int .i64 0, .int .i64 0, .int .i64 0, .int .i64 0] 27)
  have hP1 := h.below hb1
  have hin := hid (show decide (x ∈ ([] : List Int)) = false by simp)
  obtain ⟨c0, c1, c2, c3, f2, f3, hpl'⟩ := h.cells
  have hgl := hpg.lt
  have g0 := hpg.cell 0
  have g1 := hpg.cell 1
  have g2 := hpg.cell 2
  have g3 := hpg.cell 3
  have g4 := hpg.cell 4
  rw [flat_cons] at g0 g1 g2 g3 g4
  simp only [encM, List.cons_append, List.getElem?_cons_zero, List.getElem?_cons_succ] at g0 g1 g2 g3 g4
  have hl1 : (0 : Int) < (r.length : Int) + 1 := by omega
  simp only [List.length_cons, List.length_nil] at *
  unfold aggM
  simp only
  have hb2 := hb1.alloc (by simp) (.cells #[.slice asv m.words.length csv, .int .i64 m.lane, .int .i64 m.stamp, .int .i64 m.late, .int .i64 m.seq] 27)
  have hP2 := h.below hb2
  have hz2 : pts ((w.alloc (.cells #[.slice none 0 0, .int .i64 0, .int .i64 0, .int .i64 0, .int .i64 0] 27)).alloc (.cells #[.slice asv m.words.length csv, .int .i64 m.lane, .int .i64 m.stamp, .int .i64 m.late, .int .i64 m.seq] 27)) w.heap.size [.slice none 0 0, .int .i64 0, .int .i64 0, .int .i64 0, .int .i64 0] 27 := (pts.newA w _ _).alloc _
  have hm2 : pts ((w.alloc (.cells #[.slice none 0 0, .int .i64 0, .int .i64 0, .int .i64 0, .int .i64 0] 27)).alloc (.cells #[.slice asv m.words.length csv, .int .i64 m.lane, .int .i64 m.stamp, .int .i64 m.late, .int .i64 m.seq] 27)) (w.heap.size + 1) [.slice asv m.words.length csv, .int .i64 m.lane, .int .i64 m.stamp, .int .i64 m.late, .int .i64 m.seq] 27 := heap_at _ _ _ (by simp)
  have hne : ∀ c, (Value.slice (some ⟨gl, 0, none⟩) (r.length + 1) cl).ownBlock = some c → c = gl := fun c hc => by simp only [Value.ownBlock, Option.some.injEq] at hc; exact hc.symm
  have hz := hid (show ∀ w3, Chg (fun c => (Value.slice (some ⟨gl, 0, none⟩) (r.length + 1) cl).ownBlock = some c) ((w.alloc (.cells #[.slice none 0 0, .int .i64 0, .int .i64 0, .int .i64 0, .int .i64 0] 27)).alloc (.cells #[.slice asv m.words.length csv, .int .i64 m.lane, .int .i64 m.stamp, .int .i64 m.late, .int .i64 m.seq] 27)) w3 → pts w3 w.heap.size [.slice none 0 0, .int .i64 0, .int .i64 0, .int .i64 0, .int .i64 0] 27 ∧ pts w3 (w.heap.size + 1) [.slice asv m.words.length csv, .int .i64 m.lane, .int .i64 m.stamp, .int .i64 m.late, .int .i64 m.seq] 27 ∧ pts w3 pb [.pointer (some ⟨wb, 0, none⟩), .int .i64 hold, .slice (some ⟨gl, 0, none⟩) (r.length + 1) cl, .slice ar 0 cr] 72 from
    fun w3 hc => ⟨hz2.chg hc (fun e => by have := hne _ e; omega), hm2.chg hc (fun e => by have := hne _ e; omega), hP2.at_.chg hc (fun e => (hap.out.2.2.2.1 pb e).1 rfl)⟩)
  clear hz2 hm2
  have h := hid h
  have hb1 := hid hb1
  have hb2 := hid hb2
  have hP1 := hid hP1
  have hP2 := hid hP2
  have hpg := hid hpg
  have hwp := hid hwp
  have hrb : w.heap.size ≠ pb := by omega
  have hrb' : pb ≠ w.heap.size := by omega
  have hrm : w.heap.size + 1 ≠ pb := by omega
  have hrm' : pb ≠ w.heap.size + 1 := by omega
  go_enter Try.func10, Try.ntmps10
  go_wp2_with (first | (go_at_call 19; (with_reducible refine (waits_c hP1.out x).mono ?_); rw [hin.out]; rintro e w' ⟨rfl, rfl⟩) | (go_at_call 33; (with_reducible refine (deleteM_c hP2.out.l hone).mono ?_); rintro e w3 ⟨v', rfl, hr3, hc3, hv3⟩; obtain ⟨av, cv, rfl⟩ := own_shape hr3; obtain ⟨z3, m3, p3⟩ := hz.out w3 hc3; have q0 := m3.cell 0; have q1 := m3.cell 1; have q2 := m3.cell 2; have q3 := m3.cell 3; have q4 := m3.cell 4; have y0 := z3.cell 0; have y1 := z3.cell 1; have y2 := z3.cell 2; have y3 := z3.cell 3; have y4 := z3.cell 4; have k0 := z3.frozen 0; have k1 := z3.frozen 1; have k2 := z3.frozen 2; have k3 := z3.frozen 3; have k4 := z3.frozen 4; have s2 := p3.cell 2; have sf := p3.frozen 2; have zl := z3.lt; have ml := m3.lt; have pl := p3.lt; simp only [List.getElem?_cons_zero, List.getElem?_cons_succ] at q0 q1 q2 q3 q4 y0 y1 y2 y3 y4 s2; have z3 := hid z3; have m3 := hid m3; have p3 := hid p3; have hr3 := hid hr3; have hc3 := hid hc3; have hv3 := hid hv3))
  have hC0 : Chg (fun c => c = pb ∨ (Value.slice (some ⟨gl, 0, none⟩) (r.length + 1) cl).ownBlock = some c) w w3 := ((Chg.of_below hb2.out).trans hc3.out (fun i hi => .inl (.inr hi)))
  have hCF : Chg (fun c => c = pb ∨ (Value.slice (some ⟨gl, 0, none⟩) (r.length + 1) cl).ownBlock = some c) w ((((((w3.setCell ⟨pb, 2, none⟩ (.slice av r.length cv)).setCell ⟨w.heap.size, 0, none⟩ (.slice asv m.words.length csv)).setCell ⟨w.heap.size, 1, none⟩ (.int .i64 m.lane)).setCell ⟨w.heap.size, 2, none⟩ (.int .i64 m.stamp)).setCell ⟨w.heap.size, 3, none⟩ (.int .i64 m.late)).setCell ⟨w.heap.size, 4, none⟩ (.int .i64 m.seq)) := (((((hC0.setB (.inl rfl)).setN (Nat.le_refl _)).setN (Nat.le_refl _)).setN (Nat.le_refl _)).setN (Nat.le_refl _)).setN (Nat.le_refl _)
  have hpF : pts ((((((w3.setCell ⟨pb, 2, none⟩ (.slice av r.length cv)).setCell ⟨w.heap.size, 0, none⟩ (.slice asv m.words.length csv)).setCell ⟨w.heap.size, 1, none⟩ (.int .i64 m.lane)).setCell ⟨w.heap.size, 2, none⟩ (.int .i64 m.stamp)).setCell ⟨w.heap.size, 3, none⟩ (.int .i64 m.late)).setCell ⟨w.heap.size, 4, none⟩ (.int .i64 m.seq)) pb [.pointer (some ⟨wb, 0, none⟩), .int .i64 hold, .slice av r.length cv, .slice ar 0 cr] 72 := (((((p3.out.set 2 (.slice av r.length cv)).set_ne (a := ⟨w.heap.size, 0, none⟩) hrb' _).set_ne (a := ⟨w.heap.size, 1, none⟩) hrb' _).set_ne (a := ⟨w.heap.size, 2, none⟩) hrb' _).set_ne (a := ⟨w.heap.size, 3, none⟩) hrb' _).set_ne (a := ⟨w.heap.size, 4, none⟩) hrb' _
  have hrF : ((((((w3.setCell ⟨pb, 2, none⟩ (.slice av r.length cv)).setCell ⟨w.heap.size, 0, none⟩ (.slice asv m.words.length csv)).setCell ⟨w.heap.size, 1, none⟩ (.int .i64 m.lane)).setCell ⟨w.heap.size, 2, none⟩ (.int .i64 m.stamp)).setCell ⟨w.heap.size, 3, none⟩ (.int .i64 m.late)).setCell ⟨w.heap.size, 4, none⟩ (.int .i64 m.seq)).ownsRow base 27 5 (.slice av r.length cv) r.length (flat encM r) := own_of hr3.out (fun b e => by
    have hb : b = gl := hne _ (hv3.out b e)
    have h1 : b ≠ pb := fun e2 => (hap.out.2.2.2.1 b (by rw [hb]; rfl)).1 e2
    have h2 : b ≠ w.heap.size := by omega
    rw [Below.heap_setCell _ _ _ _ h2, Below.heap_setCell _ _ _ _ h2, Below.heap_setCell _ _ _ _ h2, Below.heap_setCell _ _ _ _ h2, Below.heap_setCell _ _ _ _ h2, Below.heap_setCell _ _ _ _ h1])
  have hwF := h.out.wh.chg hCF (fun e => by rcases e with e | e; exact hap.out.1 e.symm; exact (hap.out.2.2.2.1 _ e).2.1 rfl) (fun e => by rcases e with e | e; exact hap.out.2.1 e.symm; exact (hap.out.2.2.2.1 _ e).2.2 rfl)
  have hxF := own_of h.out.row (fun b e => hCF.block b (h.out.mut_lt (.inr (.inr (.inr (.inr e))))) (fun e2 => by rcases e2 with e2 | e2; exact (hap.out.2.2.2.2.1 b e).1 e2; exact hap.out.2.2.2.2.2 b e2 e))
  have hM : Chg (PMut pb wb mb (Value.slice (some ⟨gl, 0, none⟩) (r.length + 1) cl) (.slice ar 0 cr)) w ((((((w3.setCell ⟨pb, 2, none⟩ (.slice av r.length cv)).setCell ⟨w.heap.size, 0, none⟩ (.slice asv m.words.length csv)).setCell ⟨w.heap.size, 1, none⟩ (.int .i64 m.lane)).setCell ⟨w.heap.size, 2, none⟩ (.int .i64 m.stamp)).setCell ⟨w.heap.size, 3, none⟩ (.int .i64 m.late)).setCell ⟨w.heap.size, 4, none⟩ (.int .i64 m.seq)) := hCF.mono (fun i hi => by rcases hi with hi | hi; exact .inl hi; exact .inr (.inr (.inr (.inl hi))))
  have hfin := hid (PortAt.anew h.out hM hpF hwF hrF hxF (fun p hp => List.mem_cons_of_mem _ hp) (fun c hc => .inl (hv3.out c hc)) (fun c hc => .inl hc))
  have hM := hid hM
  refine bodyPost_ret (v := .tuple #[.agg #[.slice asv m.words.length csv, .int .i64 m.lane, .int .i64 m.stamp, .int .i64 m.late, .int .i64 m.seq], .int .i64 0]) (by simp [results, Try.results10, go_sem, q0, q1, q2, q3, q4, y0, y1, y2, y3, y4, hrb, hrb', zl]) rfl ⟨rfl, _, hfin.out, hM.out, hwp.out, hv3.out⟩
set_option maxHeartbeats 1000000 in
theorem askAdd_c (h : PortAt w base pb wb mb hold lv rv [] xs n D s) {x : Int} (u now : Int) (hx : x ∉ xs) (hxi : isInt x) (hlate : lateT now u = false) (hn : n < 1000000) (hxl : xs.length < 1000000) :
    Calls Try.prog 10 #[.pointer (some ⟨pb, 0, none⟩), .int .i64 x, .int .i64 u, .int .i64 now] w fun e w' => e = .returned (.tuple #[aggM zm, .int .i64 6]) ∧ ∃ rv', PortAt w' base pb wb mb hold lv rv' [] (xs ++ [x]) (n + 1) (D.put (.int .i64 x) (waitD (cutT u) (wrap64 (s + 1)))) (wrap64 (s + 1)) ∧ Chg (PMut pb wb mb lv rv) w w' ∧ (∀ c, rv'.ownBlock = some c → rv.ownBlock = some c ∨ w.heap.size ≤ c) := by
  have hap := hid h.apart
  have hb1 := (Below.refl w.heap.size w).alloc (Nat.le_refl _) (.cells #[.slice none 0 0, .int .i64 0, .int .i64 0, .int .i64 0, .int .i64 0] 27)
  have hP1 := h.below hb1
  have hz1 : pts (w.alloc (.cells #[.slice none 0 0, .int .i64 0, .int .i64 0, .int .i64 0, .int .i64 0] 27)) w.heap.size [.slice none 0 0, .int .i64 0, .int .i64 0, .int .i64 0, .int .i64 0] 27 := pts.newA w _ _
  obtain ⟨c0, c1, c2, c3, f2, f3, hpl'⟩ := hP1.cells
  obtain ⟨al, cl, rfl⟩ := own_shape h.l
  obtain ⟨ar, cr, rfl⟩ := own_shape h.row
  have hin := hid (show decide (x ∈ xs) = false by simpa using hx)
  replace hlate := hid hlate
  have hwm := hid (fun b (e : WM wb mb b) => show b < w.heap.size from by rcases e with e | e; exact e ▸ h.wh.lt.1; exact e ▸ h.wh.lt.2)
  have hbs := hid (show base ≤ w.heap.size from Nat.le_trans h.ge.1 (Nat.le_of_lt h.at_.lt))
  have hrl := hid (fun b (e : (Value.slice ar xs.length cr).ownBlock = some b) => h.mut_lt (b := b) (.inr (.inr (.inr (.inr e)))))
  have hpl0 := hid h.at_.lt
  have hrb : w.heap.size ≠ pb := by have := h.at_.lt; omega
  have hrb' : pb ≠ w.heap.size := by have := h.at_.lt; omega
  have h := hid h
  have hP1 := hid hP1
  have hb1 := hid hb1
  have hz1 := hid hz1
  simp only [List.length_nil] at *
  unfold aggM zm
  simp only
  go_enter Try.func10, Try.ntmps10
  go_wp2_with (first | (go_at_call 19; (with_reducible refine (waits_c hP1.out x).mono ?_); rw [hin.out]; rintro e w' ⟨rfl, rfl⟩) | (go_at_call 34; (with_reducible refine (late_c _ now u).mono ?_); rw [hlate.out]; rintro e w' ⟨rfl, rfl⟩) | (go_at_call 35; (with_reducible refine (set_c hP1.out.wh hn hxi u).mono ?_); rintro e w2 ⟨rfl, hw2, hc2⟩; have p2 := hP1.out.at_.chg hc2 (fun e => by rcases e with e | e; exact hap.out.1 e; exact hap.out.2.1 e); have z2 := hz1.out.chg hc2 (fun e => by have := hwm.out _ e; omega); have r2 := own_of hP1.out.row (fun b e => hc2.block b (by have := hrl.out b e; simp; omega) (fun e2 => by rcases e2 with e2 | e2; exact (hap.out.2.2.2.2.1 b e).2.1 e2; exact (hap.out.2.2.2.2.1 b e).2.2 e2)); have s3 := p2.cell 3; have sl := p2.lt; have zl := z2.lt; simp only [List.getElem?_cons_zero, List.getElem?_cons_succ] at s3; have p2 := hid p2; have z2 := hid z2; have r2 := hid r2; have hw2 := hid hw2; have hc2 := hid hc2) | (at_builtin; (refine wpList_push2 rfl (.tmp 58) (.tmp 60) 22 rfl elInt rfl (r2.out.alloc _) (Nat.le_trans hbs.out (by have := hc2.out.size; simp at this ⊢; omega)) rfl (news := [.int .i64 x]) rfl (heap_at _ _ _ rfl) (by simp [Value.oneCell']) (by omega) (by unfold maxLen; omega) (by omega) ?_; intro g' cap' w5 hown5 hg5 hor5 hlt5; have p5 := (p2.out.alloc _).of (hg5.block pb (by simp; omega) (fun e => (hap.out.2.2.2.2.1 pb e.symm).1 rfl)); have z5 := (z2.out.alloc _).of (hg5.block w.heap.size (by simp; omega) (fun e => by have := hrl.out _ e.symm; omega)); have y0 := z5.cell 0; have y1 := z5.cell 1; have y2 := z5.cell 2; have y3 := z5.cell 3; have y4 := z5.cell 4; have k0 := z5.frozen 0; have k1 := z5.frozen 1; have k2 := z5.frozen 2; have k3 := z5.frozen 3; have k4 := z5.frozen 4; have s5 := p5.cell 3; have sf5 := p5.frozen 3; have zl5 := z5.lt; have pl5 := p5.lt; simp only [List.getElem?_cons_zero, List.getElem?_cons_succ] at y0 y1 y2 y3 y4 s5; have p5 := hid p5; have z5 := hid z5; have hown5 := hid hown5; have hg5 := hid hg5; have hor5 := hid hor5)))
  have hR : (Value.slice ar xs.length cr).ownBlock = (Value.slice ar xs.length cr).ownBlock := rfl
  have hC5 : Chg (fun c => c = pb ∨ WM wb mb c ∨ (Value.slice ar xs.length cr).ownBlock = some c) w w5 :=
    (((Chg.of_below hb1.out).trans hc2.out (fun i hi => .inl (.inr (.inl hi)))).alloc (.cells #[.int .i64 x] 3)).trans (M' := fun c => (Value.slice ar xs.length cr).ownBlock = some c) ⟨hg5.out.os, hg5.out.tape, hg5.out.output, hg5.out.size, fun k hk hn => hg5.out.block k hk (fun e => hn e.symm)⟩ (fun i hi => .inl (.inr (.inr hi)))
  have hCF : Chg (fun c => c = pb ∨ WM wb mb c ∨ (Value.slice ar xs.length cr).ownBlock = some c) w ((((((w5.setCell ⟨pb, 3, none⟩ (.slice (some ⟨g', 0, none⟩) (xs.length + 1) cap')).setCell ⟨w.heap.size, 0, none⟩ (.slice none 0 0)).setCell ⟨w.heap.size, 1, none⟩ (.int .i64 0)).setCell ⟨w.heap.size, 2, none⟩ (.int .i64 0)).setCell ⟨w.heap.size, 3, none⟩ (.int .i64 0)).setCell ⟨w.heap.size, 4, none⟩ (.int .i64 0)) := (((((hC5.setB (.inl rfl)).setN (Nat.le_refl _)).setN (Nat.le_refl _)).setN (Nat.le_refl _)).setN (Nat.le_refl _)).setN (Nat.le_refl _)
  have hpF : pts ((((((w5.setCell ⟨pb, 3, none⟩ (.slice (some ⟨g', 0, none⟩) (xs.length + 1) cap')).setCell ⟨w.heap.size, 0, none⟩ (.slice none 0 0)).setCell ⟨w.heap.size, 1, none⟩ (.int .i64 0)).setCell ⟨w.heap.size, 2, none⟩ (.int .i64 0)).setCell ⟨w.heap.size, 3, none⟩ (.int .i64 0)).setCell ⟨w.heap.size, 4, none⟩ (.int .i64 0)) pb [.pointer (some ⟨wb, 0, none⟩), .int .i64 hold, .slice al 0 cl, .slice (some ⟨g', 0, none⟩) (xs.length + 1) cap'] 72 := (((((p5.out.set 3 (.slice (some ⟨g', 0, none⟩) (xs.length + 1) cap')).set_ne (a := ⟨w.heap.size, 0, none⟩) hrb' _).set_ne (a := ⟨w.heap.size, 1, none⟩) hrb' _).set_ne (a := ⟨w.heap.size, 2, none⟩) hrb' _).set_ne (a := ⟨w.heap.size, 3, none⟩) hrb' _).set_ne (a := ⟨w.heap.size, 4, none⟩) hrb' _
  have hgs : w.heap.size < (w2.alloc (.cells #[.int .i64 x] 3)).heap.size := by have := z2.out.lt; simp; omega
  have keepF : ∀ b, b ≠ pb → b ≠ w.heap.size → ((((((w5.setCell ⟨pb, 3, none⟩ (.slice (some ⟨g', 0, none⟩) (xs.length + 1) cap')).setCell ⟨w.heap.size, 0, none⟩ (.slice none 0 0)).setCell ⟨w.heap.size, 1, none⟩ (.int .i64 0)).setCell ⟨w.heap.size, 2, none⟩ (.int .i64 0)).setCell ⟨w.heap.size, 3, none⟩ (.int .i64 0)).setCell ⟨w.heap.size, 4, none⟩ (.int .i64 0)).heap[b]? = w5.heap[b]? := fun b h1 h2 => by
    rw [Below.heap_setCell _ _ _ _ h2, Below.heap_setCell _ _ _ _ h2, Below.heap_setCell _ _ _ _ h2, Below.heap_setCell _ _ _ _ h2, Below.heap_setCell _ _ _ _ h2, Below.heap_setCell _ _ _ _ h1]
  have hg1 : g' ≠ pb ∧ g' ≠ w.heap.size := by
    rcases hor5.out with e | e
    · exact ⟨(hap.out.2.2.2.2.1 g' e).1, by have := hrl.out g' e; omega⟩
    · have := hpl0.out; exact ⟨by omega, by omega⟩
  have hrF : ((((((w5.setCell ⟨pb, 3, none⟩ (.slice (some ⟨g', 0, none⟩) (xs.length + 1) cap')).setCell ⟨w.heap.size, 0, none⟩ (.slice none 0 0)).setCell ⟨w.heap.size, 1, none⟩ (.int .i64 0)).setCell ⟨w.heap.size, 2, none⟩ (.int .i64 0)).setCell ⟨w.heap.size, 3, none⟩ (.int .i64 0)).setCell ⟨w.heap.size, 4, none⟩ (.int .i64 0)).ownsRow base 3 1 (.slice (some ⟨g', 0, none⟩) (xs.length + 1) cap') (xs ++ [x]).length ((xs ++ [x]).map (Value.int .i64)) := by
    have h0 : w5.ownsRow base 3 1 (.slice (some ⟨g', 0, none⟩) (xs.length + 1) cap') (xs ++ [x]).length ((xs ++ [x]).map (Value.int .i64)) := by rw [List.length_append, List.map_append]; exact hown5.out
    exact own_of h0 (fun b e => by
      have hb : b = g' := by simp only [Value.ownBlock, Option.some.injEq] at e; exact e.symm
      exact keepF b (hb ▸ hg1.1) (hb ▸ hg1.2))
  have w5keep : ∀ b, WM wb mb b → ((((((w5.setCell ⟨pb, 3, none⟩ (.slice (some ⟨g', 0, none⟩) (xs.length + 1) cap')).setCell ⟨w.heap.size, 0, none⟩ (.slice none 0 0)).setCell ⟨w.heap.size, 1, none⟩ (.int .i64 0)).setCell ⟨w.heap.size, 2, none⟩ (.int .i64 0)).setCell ⟨w.heap.size, 3, none⟩ (.int .i64 0)).setCell ⟨w.heap.size, 4, none⟩ (.int .i64 0)).heap[b]? = w2.heap[b]? := fun b e => by
    have hlt := hwm.out b e
    have h1 : b ≠ pb := fun e2 => by rcases e with e | e; exact hap.out.1 (e2 ▸ e); exact hap.out.2.1 (e2 ▸ e)
    rw [keepF b h1 (by omega)]
    have h2 := hg5.out.block b (by omega) (fun e2 => by rcases e with e | e; exact (hap.out.2.2.2.2.1 b e2.symm).2.1 e; exact (hap.out.2.2.2.2.1 b e2.symm).2.2 e)
    rw [h2, Below.heap_alloc _ _ _ (by have := z2.out.lt; omega)]
  have hwF := hw2.out.kept (w5keep wb (.inl rfl)) (w5keep mb (.inr rfl))
  have hlF := own_of h.out.l (fun b e => hCF.block b (h.out.mut_lt (.inr (.inr (.inr (.inl e))))) (fun e2 => by rcases e2 with e2 | e2 | e2; exact (hap.out.2.2.2.1 b e).1 e2; (rcases e2 with e2 | e2; exact (hap.out.2.2.2.1 b e).2.1 e2; exact (hap.out.2.2.2.1 b e).2.2 e2); exact hap.out.2.2.2.2.2 b e e2))
  have hM : Chg (PMut pb wb mb (.slice al 0 cl) (Value.slice ar xs.length cr)) w ((((((w5.setCell ⟨pb, 3, none⟩ (.slice (some ⟨g', 0, none⟩) (xs.length + 1) cap')).setCell ⟨w.heap.size, 0, none⟩ (.slice none 0 0)).setCell ⟨w.heap.size, 1, none⟩ (.int .i64 0)).setCell ⟨w.heap.size, 2, none⟩ (.int .i64 0)).setCell ⟨w.heap.size, 3, none⟩ (.int .i64 0)).setCell ⟨w.heap.size, 4, none⟩ (.int .i64 0)) := hCF.mono (fun i hi => by rcases hi with hi | hi | hi; exact .inl hi; (rcases hi with hi | hi; exact .inr (.inl hi); exact .inr (.inr (.inl hi))); exact .inr (.inr (.inr (.inr hi))))
  have hrv5 : ∀ c, (Value.slice (some ⟨g', 0, none⟩) (xs.length + 1) cap').ownBlock = some c → (Value.slice ar xs.length cr).ownBlock = some c ∨ w.heap.size ≤ c := fun c hc => by
    have hb : c = g' := by simp only [Value.ownBlock, Option.some.injEq] at hc; exact hc.symm
    rcases hor5.out with e | e
    · exact .inl (hb ▸ e)
    · exact .inr (by omega)
  have hfin := hid (PortAt.anew h.out hM hpF hwF hlF hrF (fun p hp => hp) (fun c hc => .inl hc) hrv5)
  replace hrv5 := hid hrv5
  have hM := hid hM
  refine bodyPost_ret (v := .tuple #[.agg #[.slice none 0 0, .int .i64 0, .int .i64 0, .int .i64 0, .int .i64 0], .int .i64 6]) (by simp [results, Try.results10, go_sem, y0, y1, y2, y3, y4, hrb, hrb', zl5]) rfl ⟨rfl, _, hfin.out, hM.out, hrv5.out⟩
end
end Go.Proofs.Ytnlmkllhmldgiaa.Qu
