/- DERIVED. Walks over lanes: split, Take, Sweep, Flush. No statement is proved here. -/
import Derived.Test.YtggfallodkbgcaaLaneAll
namespace Go.Proofs.Ytggfallodkbgcaa.La
set_option linter.unusedVariables false
set_option linter.unusedSimpArgs false
open Go.RowKit Go.Proofs.Ytggfallodkbgcaa.K Go.Proofs.Ytggfallodkbgcaa.Sp Go.Proofs.Ytggfallodkbgcaa.Lb Go.Proofs.Ytggfallodkbgcaa.So
section
variable {α : Type}
/-- Those that f takes, by their number. -/
def selF (f : Nat → α → Bool) : Nat → List α → List α
  | _, [] => []
  | k, x :: r => if f k x then x :: selF f (k + 1) r else selF f (k + 1) r
theorem selF_app (f : Nat → α → Bool) (k : Nat) (l : List α) (x : α) : selF f k (l ++ [x]) = selF f k l ++ (if f (k + l.length) x then [x] else []) := by
  induction l generalizing k with
  | nil => simp only [List.nil_append, selF, List.length_nil, Nat.add_zero]
  | cons y r ih =>
    simp only [List.cons_append, selF, List.length_cons, ih]
    have e : k + 1 + r.length = k + (r.length + 1) := by omega
    rw [e]
    by_cases h : f k y = true <;> simp [h]
theorem selF_snoc (f : Nat → α → Bool) (k : Nat) {S : List α} {j : Nat} (h : j < S.length) : selF f k (S.take (j + 1)) = selF f k (S.take j) ++ (if f (k + j) S[j] then [S[j]] else []) := by
  rw [List.take_succ_eq_append_getElem h, selF_app]
  have e : (S.take j).length = j := by simp; omega
  rw [e]
theorem selF_le (f : Nat → α → Bool) (k : Nat) (l : List α) : (selF f k l).length ≤ l.length := by
  induction l generalizing k with
  | nil => simp [selF]
  | cons y r ih =>
    simp only [selF]
    have := ih (k + 1)
    split <;> simp <;> omega
theorem selF_mem {f : Nat → α → Bool} {k : Nat} {l : List α} {p : α} (h : p ∈ selF f k l) : p ∈ l := by
  induction l generalizing k with
  | nil => simp [selF] at h
  | cons y r ih =>
    simp only [selF] at h
    split at h
    · rcases List.mem_cons.1 h with rfl | h
      · simp
      · exact List.mem_cons_of_mem _ (ih h)
    · exact List.mem_cons_of_mem _ (ih h)
theorem selF_filter (f : α → Bool) (k : Nat) (l : List α) : selF (fun _ p => f p) k l = l.filter f := by
  induction l generalizing k with
  | nil => rfl
  | cons y r ih => simp only [selF, ih, List.filter_cons]
theorem selF_map {β : Type} (g : α → β) (f : Nat → β → Bool) (k : Nat) (l : List α) : (selF (fun k p => f k (g p)) k l).map g = selF f k (l.map g) := by
  induction l generalizing k with
  | nil => rfl
  | cons y r ih =>
    simp only [selF, List.map_cons]
    split <;> simp [ih]
theorem selF_none {f : Nat → α → Bool} {k : Nat} {l : List α} (h : ∀ i, k ≤ i → ∀ p, f i p = false) : selF f k l = [] := by
  induction l generalizing k with
  | nil => rfl
  | cons y r ih => simp only [selF, h k (Nat.le_refl _) y]; exact ih (fun i hi p => h i (by omega) p)
theorem selF_all {f : Nat → α → Bool} {k : Nat} {l : List α} (h : ∀ i, k ≤ i → ∀ p, f i p = true) : selF f k l = l := by
  induction l generalizing k with
  | nil => rfl
  | cons y r ih => simp only [selF, h k (Nat.le_refl _) y, if_true]; rw [ih (fun i hi p => h i (by omega) p)]
end
/-- Two rows of the call's own, of messages, apart; what was there at w0 is as it was but in N's blocks. -/
structure TwoC (N : Nat → Prop) (w0 w : World) (va vb : Value) (la lb : List (Value × Msg)) : Prop where
  a : w.ownsRow w0.heap.size 37 5 va la.length (flat encM la)
  b : w.ownsRow w0.heap.size 37 5 vb lb.length (flat encM lb)
  ne : ∀ x, va.ownBlock = some x → vb.ownBlock ≠ some x
  chg : Chg N w0 w
  nlt : ∀ b, N b → b < w0.heap.size
section
variable {N : Nat → Prop} {w0 w w' : World} {va vb : Value} {la lb : List (Value × Msg)}
theorem TwoC.start (h : Below w0.heap.size w0 w) (hn : ∀ b, N b → b < w0.heap.size) : TwoC N w0 w (.slice none 0 0) (.slice none 0 0) [] [] :=
  ⟨World.ownsRow_nil _ _ _ _, World.ownsRow_nil _ _ _ _, fun b h => (by cases h), Chg.of_below h, hn⟩
theorem TwoC.step (h : TwoC N w0 w va vb la lb) (hc : Chg N w w') : TwoC N w0 w' va vb la lb :=
  ⟨own_of h.a (fun b e => hc.block b (own_lt h.a e) (fun hn => by have := own_block_ge h.a b e; have := h.nlt b hn; omega)), own_of h.b (fun b e => hc.block b (own_lt h.b e) (fun hn => by have := own_block_ge h.b b e; have := h.nlt b hn; omega)), h.ne, h.chg.trans hc (fun i hi => .inl hi), h.nlt⟩
theorem TwoC.next (h : TwoC N w0 w va vb la lb) (hb : Below w.heap.size w w') : TwoC N w0 w' va vb la lb := h.step (Chg.of_below hb)
theorem TwoC.alloc (h : TwoC N w0 w va vb la lb) (o : Obj) : TwoC N w0 (w.alloc o) va vb la lb := h.next ((Below.refl _ _).alloc (Nat.le_refl _) _)
theorem TwoC.swap (h : TwoC N w0 w va vb la lb) : TwoC N w0 w vb va lb la := ⟨h.b, h.a, fun x e1 e2 => h.ne x e2 e1, h.chg, h.nlt⟩
theorem TwoC.shapes (h : TwoC N w0 w va vb la lb) : (∃ ao cap, va = .slice ao la.length cap) ∧ (∃ bo cap, vb = .slice bo lb.length cap) := ⟨own_shape h.a, own_shape h.b⟩
theorem TwoC.push (h : TwoC N w0 w va vb la lb) {g' cap : Nat} {x : Value × Msg} (hown : w'.ownsRow w0.heap.size 37 5 (.slice (some ⟨g', 0, none⟩) (la.length + 1) cap) (la.length + 1) (flat encM la ++ encM x)) (hg : w.grownBy w' va.ownBlock) (hor : va.ownBlock = some g' ∨ g' = w.heap.size) :
    TwoC N w0 w' (.slice (some ⟨g', 0, none⟩) (la.length + 1) cap) vb (la ++ [x]) lb := by
  have hc : Chg (fun b => va.ownBlock = some b) w w' := ⟨hg.os, hg.tape, hg.output, hg.size, fun k hk hn => hg.block k hk (fun e => hn e.symm)⟩
  refine ⟨by rw [List.length_append, flat_append, flat_single]; exact hown, own_of h.b (fun b e => hg.block b (own_lt h.b e) (fun e2 => h.ne b e2.symm e)), fun b hb hb2 => ?_, h.chg.trans hc (fun i hi => .inr (own_block_ge h.a i hi)), h.nlt⟩
  simp only [Value.ownBlock, Option.some.injEq] at hb; subst hb
  rcases hor with e | e
  · exact h.ne _ e hb2
  · have := own_lt h.b hb2; omega
theorem TwoC.wpA {ops : Array Oper} {rest : List Oper} {o : Oper} {a : Act} {Q : Exit → Act → World → Prop} (h : TwoC N w0 w va vb la lb) (hgd : o.guard = none) (s x : Operand)
    (ho : o.op = .call { callee := .builtin .append, args := #[s, x], argTypes := #[41, 41] }) (hs : a.eval s = va) {g c : Nat} {y : Value × Msg} (hx : a.eval x = .slice (some ⟨g, 0, none⟩) 1 c) {T : TypeId} {fr : Nat × Nat} (hg : w.heap[g]? = some (.cells (encM y).toArray T fr)) (h1 : ∀ u ∈ encM y, u.oneCell' = true)
    (hlen : la.length < 1000000) (k : ∀ g' cap w', TwoC N w0 w' (.slice (some ⟨g', 0, none⟩) (la.length + 1) cap) vb (la ++ [y]) lb → w.grownBy w' va.ownBlock → (va.ownBlock = some g' ∨ g' = w.heap.size) → wpList Try.prog ops Q rest (a.put o.dst (.slice (some ⟨g', 0, none⟩) (la.length + 1) cap)) w') :
    wpList Try.prog ops Q (o :: rest) a w :=
  wpList_push2 hgd s x 41 ho elMsg hs h.a h.chg.size hx rfl hg h1 (by omega) (by unfold maxLen; omega) (by omega) (fun g' cap w' hown hgr hor _ => k g' cap w' (h.push hown hgr hor) hgr hor)
theorem TwoC.wpB {ops : Array Oper} {rest : List Oper} {o : Oper} {a : Act} {Q : Exit → Act → World → Prop} (h : TwoC N w0 w va vb la lb) (hgd : o.guard = none) (s x : Operand)
    (ho : o.op = .call { callee := .builtin .append, args := #[s, x], argTypes := #[41, 41] }) (hs : a.eval s = vb) {g c : Nat} {y : Value × Msg} (hx : a.eval x = .slice (some ⟨g, 0, none⟩) 1 c) {T : TypeId} {fr : Nat × Nat} (hg : w.heap[g]? = some (.cells (encM y).toArray T fr)) (h1 : ∀ u ∈ encM y, u.oneCell' = true)
    (hlen : lb.length < 1000000) (k : ∀ g' cap w', TwoC N w0 w' va (.slice (some ⟨g', 0, none⟩) (lb.length + 1) cap) la (lb ++ [y]) → w.grownBy w' vb.ownBlock → (vb.ownBlock = some g' ∨ g' = w.heap.size) → wpList Try.prog ops Q rest (a.put o.dst (.slice (some ⟨g', 0, none⟩) (lb.length + 1) cap)) w') :
    wpList Try.prog ops Q (o :: rest) a w :=
  h.swap.wpA hgd s x ho hs hx hg h1 hlen (fun g' cap w' h2 hz hor => k g' cap w' h2.swap hz hor)
end
/-- What split leaves: those that were taken, in a row of their own; the others. -/
def SplitPost (w : World) (M N : Nat → Prop) (lb : Nat) (ln pl : Int) (f : Nat → Msg → Bool) (ms : List Msg) (e : Ending) (w' : World) : Prop :=
  ∃ v qs, e = .returned v ∧ qs.map Prod.snd = selF f 0 (sortM ms) ∧ w'.ownsRow w.heap.size 37 5 v qs.length (flat encM qs) ∧ WordsIn M w' qs ∧ LanesM w' (fun b => grow M w w' b ∧ v.ownBlock ≠ some b) lb ln pl (selF (fun k m => !f k m) 0 (sortM ms)) ∧ Chg (fun b => M b ∨ N b) w w'
theorem selF_sub {α : Type} (f : Nat → α → Bool) (k : Nat) (l : List α) : List.Sublist (selF f k l) l := by
  induction l generalizing k with
  | nil => exact List.Sublist.refl _
  | cons y r ih =>
    simp only [selF]
    split
    · exact (ih _).cons_cons _
    · exact (ih _).cons _
theorem LInv.subl {ln pl : Int} {ms ms' : List Msg} (h : LInv ln pl ms) (hs : List.Sublist ms' ms) : LInv ln pl ms' :=
  ⟨h.l, h.p, fun m hm => h.lane m (hs.subset hm), fun k => by have := h.few k; have := (hs.filter (fun m => m.lane == k)).length_le; omega, fun m hm => h.short m (hs.subset hm)⟩
def aggP (f : Nat → Msg → Bool) (k : Nat) (p : Value × Msg) : Bool := f k p.2
/-- What split leaves, told exactly: two rows of the call's own; it writes the lanes' struct alone (and what its closure writes). -/
def SplitPostA (w : World) (N : Nat → Prop) (lb : Nat) (ln pl : Int) (ps : List (Value × Msg)) (f : Nat → Msg → Bool) (e : Ending) (w' : World) : Prop :=
  ∃ vo qs vr rs, e = .returned vo ∧ qs.map Prod.snd = selF f 0 (sortM (ps.map Prod.snd)) ∧ rs.map Prod.snd = selF (fun k m => !f k m) 0 (sortM (ps.map Prod.snd)) ∧ (∀ p ∈ qs, p ∈ ps) ∧ (∀ p ∈ rs, p ∈ ps) ∧ w'.ownsRow w.heap.size 37 5 vo qs.length (flat encM qs) ∧ w'.ownsRow w.heap.size 37 5 vr rs.length (flat encM rs) ∧ (∀ x, vo.ownBlock = some x → vr.ownBlock ≠ some x) ∧ pts w' lb [.int .i64 ln, .int .i64 pl, vr] 90 ∧ Chg (fun b => b = lb ∨ N b) w w'
theorem split_finA {w wr w' : World} {M N : Nat → Prop} {lb : Nat} {ln pl : Int} {lv : Value} {ps : List (Value × Msg)} {f : Nat → Msg → Bool} {vo vr : Value} (hl : LanesAt w M lb ln pl lv ps) (hNM : ∀ b, N b → ¬ M b) (h1 : TwoC N w wr vo vr (selF (aggP f) 0 (sortL laneOf ps)) (selF (fun k p => !aggP f k p) 0 (sortL laneOf ps))) (he : w' = wr.setCell ⟨lb, 2, none⟩ vr) :
    SplitPostA w N lb ln pl ps f (.returned vo) w' := by
  subst he
  have hlb := hl.at_.lt
  have hlN : ¬ N lb := fun hn => hNM _ hn hl.mine
  have hp := hl.at_.chg h1.chg hlN
  have hC : Chg (fun b => b = lb ∨ N b) w (wr.setCell ⟨lb, 2, none⟩ vr) := (h1.chg.mono (fun i hi => .inr hi)).setB (.inl rfl)
  have hmapA : (selF (aggP f) 0 (sortL laneOf ps)).map Prod.snd = selF f 0 (sortM (ps.map Prod.snd)) := by
    rw [← sort_snd]; exact selF_map Prod.snd f 0 _
  have hmapB : (selF (fun k p => !aggP f k p) 0 (sortL laneOf ps)).map Prod.snd = selF (fun k m => !f k m) 0 (sortM (ps.map Prod.snd)) := by
    rw [← sort_snd]; exact selF_map Prod.snd (fun k m => !f k m) 0 _
  have hage : ∀ b, vo.ownBlock = some b → w.heap.size ≤ b := fun b e => own_block_ge h1.a b e
  have hbge : ∀ b, vr.ownBlock = some b → w.heap.size ≤ b := fun b e => own_block_ge h1.b b e
  have hkA : ∀ b, w.heap.size ≤ b → b ≠ lb := fun b h => by omega
  exact ⟨vo, _, vr, _, rfl, hmapA, hmapB, fun p hp => (sortL_mem _ _).1 (selF_mem hp), fun p hp => (sortL_mem _ _).1 (selF_mem hp), own_of h1.a (fun b e => Below.heap_setCell _ _ _ _ (hkA b (hage b e))), own_of h1.b (fun b e => Below.heap_setCell _ _ _ _ (hkA b (hbge b e))), h1.ne, by simpa using hp.set 2 vr, hC⟩
theorem SplitPostA.coarse {w w' : World} {M N : Nat → Prop} {lb : Nat} {ln pl : Int} {lv : Value} {ps : List (Value × Msg)} {f : Nat → Msg → Bool} {e : Ending} (h : SplitPostA w N lb ln pl ps f e w') (hl : LanesAt w M lb ln pl lv ps) (hNM : ∀ b, N b → ¬ M b) : SplitPost w M N lb ln pl f (ps.map Prod.snd) e w' := by
  obtain ⟨vo, qs, vr, rs, rfl, hmapA, hmapB, hsq, hsr, ho, hr, hne, hp, hC⟩ := h
  have hlb := hl.at_.lt
  have hW : ∀ qs : List (Value × Msg), (∀ p ∈ qs, p ∈ ps) → WordsIn (fun b => M b ∧ b ≠ lb ∧ lv.ownBlock ≠ some b ∧ b < w.heap.size) w' qs := fun qs hq => by
    refine ((hl.words.mono (ok' := fun b => M b ∧ b ≠ lb ∧ lv.ownBlock ≠ some b ∧ b < w.heap.size) (fun b hb hlt => ⟨hb.1, hb.2.1, hb.2.2, hlt⟩)).sub hq).kept hC.size (fun b hb hlt => ?_)
    exact hC.block b hlt (fun hn => hn.elim hb.2.1 (fun hn => hNM b hn hb.1))
  have hage : ∀ b, vo.ownBlock = some b → w.heap.size ≤ b := fun b e => own_block_ge ho b e
  have hbge : ∀ b, vr.ownBlock = some b → w.heap.size ≤ b := fun b e => own_block_ge hr b e
  refine ⟨vo, qs, rfl, hmapA, ho, (hW _ hsq).mono (fun b h _ => h.1), ⟨vr, rs, hmapB, ?_⟩, hC.mono (fun i hi => by rcases hi with hi | hi; exact .inl (by rw [hi]; exact hl.mine); exact .inr hi)⟩
  refine ⟨hp, own_mono hr (Nat.zero_le _), (hW _ hsr).mono (fun b h _ => ⟨⟨.inl h.1, fun e => by have := hage b e; omega⟩, h.2.1, fun e => by have := hbge b e; omega⟩), ⟨.inl hl.mine, fun e => by have := hage _ e; omega⟩, fun b e => ⟨.inr ⟨hbge b e, own_lt hr e⟩, fun e2 => hne b e2 e⟩, fun b hb => ?_, ?_⟩
  · rcases hb.1 with h | h
    · exact Nat.lt_of_lt_of_le (hl.lt b h) hC.size
    · exact h.2
  · rw [hmapB]
    exact hl.inv.sort.subl (selF_sub _ _ _)
theorem _root_.Go.Proofs.Ytggfallodkbgcaa.K.MsgsAt.chg2 {N ok okw : Nat → Prop} {B : Nat} {w w' : World} {v : Value} {ps : List (Value × Msg)} (h : MsgsAt ok okw w v ps) (hc : Chg N w w') (hN : ∀ b, N b → b < B) (hNM : ∀ b, N b → ¬ okw b) (hok : ∀ b, ok b → B ≤ b) : MsgsAt ok okw w' v ps :=
  h.kept hc.size (fun b hb hlt => hc.block b hlt (fun hn => by rcases hb with hb | hb; exact (by have := hN b hn; have := hok b hb; omega); exact hNM b hn hb))
/-- Lanes' split at Sweep's closure. -/
def SweepCl (nb : Nat) (now : Int) (w : World) (_ : Nat) : Prop := w.cell? ⟨nb, 0, none⟩ = some (.int .i64 now)
theorem cell_blk {w : World} {b o : Nat} {v : Value} (h : w.cell? ⟨b, o, none⟩ = some v) : b < w.heap.size := by
  unfold World.cell? at h
  split at h
  · rename_i h1; exact (Array.getElem?_eq_some_iff.1 h1).1
  · cases h
theorem sweep1_c {w : World} {nb : Nat} {now : Int} (hn : w.cell? ⟨nb, 0, none⟩ = some (.int .i64 now)) (a : Option Addr) (n c : Nat) (m : Msg) : Calls Try.prog 71 #[.agg #[.slice a n c, .int .i64 m.lane, .int .i64 m.stamp, .int .i64 m.late, .int .i64 m.seq], .pointer (some ⟨nb, 0, none⟩)] w fun e w' => e = .returned (.bool (lateT now m.late)) ∧ Below w.heap.size w w' := by
  have hlt := cell_blk hn
  have hne : nb ≠ w.heap.size := by omega
  go_enter Try.func71, Try.ntmps71
  go_wp2_with (first | (go_at_call 40; (with_reducible refine (late_c _ now m.late).mono ?_); rintro e w1 ⟨rfl, rfl⟩))
  go_ret
  exact ⟨rfl, (Below.refl _ _).alloc (Nat.le_refl _) _⟩
def sweepF (now : Int) (_ : Nat) (m : Msg) : Bool := lateT now m.late
theorem clKeepS {nb B : Nat} {now : Int} (hB : nb < B) {w w' : World} {k : Nat} (h : SweepCl nb now w k) (hk : ∀ b, b < B → w'.heap[b]? = w.heap[b]?) (_ : w.heap.size ≤ w'.heap.size) : SweepCl nb now w' k := (World.cell?_of_block (a := ⟨nb, 0, none⟩) (hk nb hB)).trans h
set_option maxHeartbeats 2000000 in
theorem splitSweep_cA {w : World} {M : Nat → Prop} {lb : Nat} {ln pl : Int} {lv : Value} {ps : List (Value × Msg)} (hl : LanesAt w M lb ln pl lv ps) {nb : Nat} {now : Int} (hNM : ∀ b, b = nb → ¬ M b) (hNl : ∀ b, b = nb → b < w.heap.size) (hCl : SweepCl nb now w 0) (clKeep : ∀ {w1 w2 : World} {k : Nat}, SweepCl nb now w1 k → (∀ b, b < w.heap.size → w2.heap[b]? = w1.heap[b]?) → w1.heap.size ≤ w2.heap.size → SweepCl nb now w2 k) (hcall0 : ∀ (w1 : World) (k : Nat) (a : Option Addr) (n c : Nat) (m : Msg), SweepCl nb now w1 k → k < 1000 → Calls Try.prog 71 #[.agg #[.slice a n c, .int .i64 m.lane, .int .i64 m.stamp, .int .i64 m.late, .int .i64 m.seq], .pointer (some ⟨nb, 0, none⟩)] w1 fun e w2 => e = .returned (.bool (sweepF now k m)) ∧ SweepCl nb now w2 (k + 1) ∧ Chg (fun b => b = nb) w1 w2) (hMlt : ∀ b, M b → b < w.heap.size) :
    Calls Try.prog 70 #[.pointer (some ⟨lb, 0, none⟩), .func (.func 71) #[] #[.pointer (some ⟨nb, 0, none⟩)]] w (SplitPostA w (fun b => b = nb) lb ln pl ps (sweepF now)) := by
  obtain ⟨c0, c1, c2, f2, hlt⟩ := hl.cells
  have hso := sorted_c hl.msgs (by have := hl.len; omega) (.inr rfl)
  have hfin := hid (fun (wr w' : World) (vo vr : Value) (h1 : TwoC (fun b => b = nb) w wr vo vr (selF (aggP (sweepF now)) 0 (sortL laneOf ps)) (selF (fun k p => !(aggP (sweepF now)) k p) 0 (sortL laneOf ps))) (he : w' = wr.setCell ⟨lb, 2, none⟩ vr) => split_finA (f := (sweepF now)) hl hNM h1 he)
  have hslen := hid (show (sortL laneOf ps).length = ps.length from sortL_len _)
  have hlen24 := hl.len
  obtain ⟨al, cl, rfl⟩ := own_shape hl.own
  replace hso := hid hso
  have hl0 := hid hl
  clear hl
  replace hCl := hid hCl
  replace hNl := hid hNl
  go_enter Try.func70, Try.ntmps70
  go_wp2_with (first | (go_at_call 55; (with_reducible refine (hso.out).mono ?_); rintro e w1 ⟨v1, rfl, hm1, hb1⟩; obtain ⟨a1, k1, rfl⟩ := hm1.shape; replace hm1 := hid hm1; replace hb1 := hid hb1))
  generalize hS : sortL laneOf ps = S at *
  replace hS := hid hS
  have hS24 : S.length ≤ 24 := by have := hslen.out; omega
  have hstart := hid (TwoC.start (N := (fun b => b = nb)) hb1.out hNl.out)
  have hCl1 := hid (clKeep hCl.out (fun b hb => hb1.out.block b hb) hb1.out.size)
  go_loopg [17, 5, 6] S.length (fun g i uo ur wr => ∃ (k : Nat) (vo vr : Value), k ≤ S.length ∧ g = S.length - k ∧ i = .int .i64 k ∧ vo = uo ∧ vr = ur ∧ TwoC (fun b => b = nb) w wr vo vr (selF (aggP (sweepF now)) 0 (S.take k)) (selF (fun k p => !(aggP (sweepF now)) k p) 0 (S.take k)) ∧ SweepCl nb now wr k ∧ MsgsAt (fun b => w.heap.size ≤ b ∧ b < w1.heap.size) M wr (.slice a1 S.length k1) S ∧ w1.heap.size ≤ wr.heap.size ∧ (∀ b, vo.ownBlock = some b → w1.heap.size ≤ b) ∧ (∀ b, vr.ownBlock = some b → w1.heap.size ≤ b))
  case atStart => exact ⟨0, _, _, Nat.zero_le _, rfl, rfl, rfl, rfl, hstart.out, hCl1.out, hm1.out.mono (fun b h h2 => ⟨h, h2⟩) (fun b h _ => h), Nat.le_refl _, (fun b h => by cases h), (fun b h => by cases h)⟩
  case round =>
    obtain ⟨k, vo, vr, hk, hgk, rfl, rfl, rfl, hT, hC, hM, hz, ho1, hr1⟩ := hrel
    by_cases hkl : k < S.length
    · obtain ⟨g, o, a, c, rfl, hgm, hpe, hat, hiw⟩ := hM.at5 hkl
      have hA1 : selF (aggP (sweepF now)) 0 (S.take (k + 1)) = selF (aggP (sweepF now)) 0 (S.take k) ++ (if (aggP (sweepF now)) (0 + k) S[k] = true then [S[k]] else []) := selF_snoc (aggP (sweepF now)) 0 hkl
      have hA2 : selF (fun k p => !(aggP (sweepF now)) k p) 0 (S.take (k + 1)) = selF (fun k p => !(aggP (sweepF now)) k p) 0 (S.take k) ++ (if (!(aggP (sweepF now)) (0 + k) S[k]) = true then [S[k]] else []) := selF_snoc (fun k p => !(aggP (sweepF now)) k p) 0 hkl
      rw [hpe] at hA1 hA2
      have hla : (selF (aggP (sweepF now)) 0 (S.take k)).length ≤ 24 := Nat.le_trans (selF_le _ _ _) (by simp; omega)
      have hlb : (selF (fun k p => !(aggP (sweepF now)) k p) 0 (S.take k)).length ≤ 24 := Nat.le_trans (selF_le _ _ _) (by simp; omega)
      generalize selF (aggP (sweepF now)) 0 (S.take k) = la at hT hA1 hla
      generalize selF (fun k p => !(aggP (sweepF now)) k p) 0 (S.take k) = lb' at hT hA2 hlb
      clear hpe
      generalize S[k].2 = m at hat hiw hA1 hA2
      obtain ⟨⟨ao, co, rfl⟩, ⟨ar, cr, rfl⟩⟩ := hT.shapes
      obtain ⟨-, hcl1, hcl2, -⟩ := hM.get
      have hbA := (Below.refl wr.heap.size wr).alloc (Nat.le_refl _) (.cells #[.slice a m.words.length c, .int .i64 m.lane, .int .i64 m.stamp, .int .i64 m.late, .int .i64 m.seq] 37)
      have hpA := pts.newA wr #[.slice a m.words.length c, .int .i64 m.lane, .int .i64 m.stamp, .int .i64 m.late, .int .i64 m.seq] 37
      have hTA := hT.next hbA
      have hCA := clKeep hC (fun b hb => hbA.block b (Nat.lt_of_lt_of_le hb hT.chg.size)) hbA.size
      have hMA := hM.below hbA
      have hcall := hcall0 (wr.alloc (.cells #[.slice a m.words.length c, .int .i64 m.lane, .int .i64 m.stamp, .int .i64 m.late, .int .i64 m.seq] 37)) k a m.words.length c m hCA (by omega)
      have hnz : ¬ ((fun b => b = nb)) wr.heap.size := fun hn => by have := hNl.out wr.heap.size hn; have := hT.chg.size; omega
      obtain ⟨x0, x1, x2, x3, x4, hxl⟩ := hat
      have hagg : (aggP (sweepF now)) (0 + k) (.slice a m.words.length c, m) = (sweepF now) k m := by rw [Nat.zero_add]; rfl
      rw [hagg] at hA1 hA2
      clear hagg
      replace hTA := hid hTA
      replace hCA := hid hCA
      replace hMA := hid hMA
      replace hbA := hid hbA
      replace hpA := hid hpA
      replace hcall := hid hcall
      replace hA1 := hid hA1
      replace hA2 := hid hA2
      replace ho1 := hid ho1
      replace hr1 := hid hr1
      replace hT := hid hT
      replace hC := hid hC
      replace hM := hid hM
      replace hnz := hid hnz
      have hzA := hid (show w1.heap.size ≤ (wr.alloc (.cells #[.slice a m.words.length c, .int .i64 m.lane, .int .i64 m.stamp, .int .i64 m.late, .int .i64 m.seq] 37)).heap.size by simp; omega)
      cases hans : (sweepF now) k m with
      | true =>
        have hcall := hcall.out
        rw [hans] at hcall hA1 hA2
        replace hcall := hid hcall
        have hf1 := hid hA1
        have hf2 := hid hA2
        go_wp2_with (first | (go_at_call 71; (with_reducible refine (hcall.out).mono ?_); rintro e w2 ⟨rfl, hC2, hc2⟩; have hp2 := hpA.out.chg hc2 hnz.out; have y0 := hp2.cell 0; have y1 := hp2.cell 1; have y2 := hp2.cell 2; have y3 := hp2.cell 3; have y4 := hp2.cell 4; have yl := hp2.lt; simp only [List.getElem?_cons_zero, List.getElem?_cons_succ] at y0 y1 y2 y3 y4; have hT2 := hid ((hTA.out.step hc2).alloc (.cells #[.slice a m.words.length c, .int .i64 m.lane, .int .i64 m.stamp, .int .i64 m.late, .int .i64 m.seq] 37)); have hM2 := hid ((hMA.out.chg2 hc2 hNl.out hNM (fun b h => h.1)).below ((Below.refl _ _).alloc (Nat.le_refl _) (.cells #[.slice a m.words.length c, .int .i64 m.lane, .int .i64 m.stamp, .int .i64 m.late, .int .i64 m.seq] 37))); have hC3 := hid (clKeep hC2 (fun b hb => ((Below.refl w2.heap.size w2).alloc (Nat.le_refl _) (.cells #[.slice a m.words.length c, .int .i64 m.lane, .int .i64 m.stamp, .int .i64 m.late, .int .i64 m.seq] 37)).block b (Nat.lt_of_lt_of_le hb (Nat.le_trans hTA.out.chg.size hc2.size))) (by simp)); have hz2 := hid (Nat.le_trans hzA.out hc2.size); clear hp2) | (at_builtin; (refine hT2.out.wpA rfl (.tmp 24) (.tmp 26) rfl rfl (y := (.slice a m.words.length c, m)) rfl (heap_at _ _ _ (by simp)) (by simp [encM, Value.oneCell']) (by omega) ?_; intro g' cap' w6 hT6 hg6 hor6; have hM6 := hid (hM2.out.kept hg6.size (fun b hb hlt => hg6.block b hlt (fun e => by rcases hb with hb | hb; exact (by have := ho1.out b e.symm; omega); exact (by have := own_block_ge hT2.out.a b e.symm; have := hMlt b hb; omega)))); have hC6 := hid (clKeep hC3.out (fun b hb => hg6.block b (by have := hT2.out.chg.size; omega) (fun e => by have := own_block_ge hT2.out.a b e.symm; omega)) hg6.size); have hz6 := hid (show w1.heap.size ≤ w6.heap.size from Nat.le_trans (Nat.le_trans hz2.out (by simp)) hg6.size); have ho6 := hid (show ∀ b, (Value.slice (some ⟨g', 0, none⟩) (la.length + 1) cap').ownBlock = some b → w1.heap.size ≤ b from fun b hb => by simp only [Value.ownBlock, Option.some.injEq] at hb; subst hb; rcases hor6 with e | e; exact ho1.out _ e; exact (by have := hz2.out; simp at e; omega)); have hT6 := hid hT6; clear hg6 hor6)))
        go_roundg (S.length - (k + 1))
        case rel => exact ⟨k + 1, _, _, by omega, rfl, by go_num, rfl, rfl, by rw [hf1.out, hf2.out]; simpa using hT6.out, hC6.out, hM6.out, hz6.out, ho6.out, hr1.out⟩
        case measure => omega
      | false =>
        have hcall := hcall.out
        rw [hans] at hcall hA1 hA2
        replace hcall := hid hcall
        have hf1 := hid hA1
        have hf2 := hid hA2
        go_wp2_with (first | (go_at_call 71; (with_reducible refine (hcall.out).mono ?_); rintro e w2 ⟨rfl, hC2, hc2⟩; have hp2 := hpA.out.chg hc2 hnz.out; have y0 := hp2.cell 0; have y1 := hp2.cell 1; have y2 := hp2.cell 2; have y3 := hp2.cell 3; have y4 := hp2.cell 4; have yl := hp2.lt; simp only [List.getElem?_cons_zero, List.getElem?_cons_succ] at y0 y1 y2 y3 y4; have hT2 := hid ((hTA.out.step hc2).alloc (.cells #[.slice a m.words.length c, .int .i64 m.lane, .int .i64 m.stamp, .int .i64 m.late, .int .i64 m.seq] 37)); have hM2 := hid ((hMA.out.chg2 hc2 hNl.out hNM (fun b h => h.1)).below ((Below.refl _ _).alloc (Nat.le_refl _) (.cells #[.slice a m.words.length c, .int .i64 m.lane, .int .i64 m.stamp, .int .i64 m.late, .int .i64 m.seq] 37))); have hC3 := hid (clKeep hC2 (fun b hb => ((Below.refl w2.heap.size w2).alloc (Nat.le_refl _) (.cells #[.slice a m.words.length c, .int .i64 m.lane, .int .i64 m.stamp, .int .i64 m.late, .int .i64 m.seq] 37)).block b (Nat.lt_of_lt_of_le hb (Nat.le_trans hTA.out.chg.size hc2.size))) (by simp)); have hz2 := hid (Nat.le_trans hzA.out hc2.size); clear hp2) | (at_builtin; (refine hT2.out.wpB rfl (.tmp 28) (.tmp 30) rfl rfl (y := (.slice a m.words.length c, m)) rfl (heap_at _ _ _ (by simp)) (by simp [encM, Value.oneCell']) (by omega) ?_; intro g' cap' w6 hT6 hg6 hor6; have hM6 := hid (hM2.out.kept hg6.size (fun b hb hlt => hg6.block b hlt (fun e => by rcases hb with hb | hb; exact (by have := hr1.out b e.symm; omega); exact (by have := own_block_ge hT2.out.b b e.symm; have := hMlt b hb; omega)))); have hC6 := hid (clKeep hC3.out (fun b hb => hg6.block b (by have := hT2.out.chg.size; omega) (fun e => by have := own_block_ge hT2.out.b b e.symm; omega)) hg6.size); have hz6 := hid (show w1.heap.size ≤ w6.heap.size from Nat.le_trans (Nat.le_trans hz2.out (by simp)) hg6.size); have hr6 := hid (show ∀ b, (Value.slice (some ⟨g', 0, none⟩) (lb'.length + 1) cap').ownBlock = some b → w1.heap.size ≤ b from fun b hb => by simp only [Value.ownBlock, Option.some.injEq] at hb; subst hb; rcases hor6 with e | e; exact hr1.out _ e; exact (by have := hz2.out; simp at e; omega)); have hT6 := hid hT6; clear hg6 hor6)))
        go_roundg (S.length - (k + 1))
        case rel => exact ⟨k + 1, _, _, by omega, rfl, by go_num, rfl, rfl, by rw [hf1.out, hf2.out]; simpa using hT6.out, hC6.out, hM6.out, hz6.out, ho1.out, hr6.out⟩
        case measure => omega
    · obtain rfl : k = S.length := by omega
      rw [List.take_length] at hT
      have hl2 := hl0.out.at_.chg hT.chg (fun hn => hNM _ hn hl0.out.mine)
      have s2 := hl2.cell 2
      have sf := hl2.frozen 2
      have sl := hl2.lt
      simp only [List.getElem?_cons_zero, List.getElem?_cons_succ] at s2
      obtain ⟨⟨ao, co, rfl⟩, ⟨ar, cr, rfl⟩⟩ := hT.shapes
      have hf := hid (hfin.out wr _ _ _ hT rfl)
      obtain ⟨-, hcl1, hcl2, -⟩ := hM.get
      clear hT hC hM hl2
      go_wp2
      go_ret
      exact hf.out
theorem splitSweep_c {w : World} {M : Nat → Prop} {lb : Nat} {ln pl : Int} {ms : List Msg} (h : LanesM w M lb ln pl ms) {nb : Nat} {now : Int} (hNM : ∀ b, b = nb → ¬ M b) (hNl : ∀ b, b = nb → b < w.heap.size) (hCl : SweepCl nb now w 0) (clKeep : ∀ {w1 w2 : World} {k : Nat}, SweepCl nb now w1 k → (∀ b, b < w.heap.size → w2.heap[b]? = w1.heap[b]?) → w1.heap.size ≤ w2.heap.size → SweepCl nb now w2 k) (hcall0 : ∀ (w1 : World) (k : Nat) (a : Option Addr) (n c : Nat) (m : Msg), SweepCl nb now w1 k → k < 1000 → Calls Try.prog 71 #[.agg #[.slice a n c, .int .i64 m.lane, .int .i64 m.stamp, .int .i64 m.late, .int .i64 m.seq], .pointer (some ⟨nb, 0, none⟩)] w1 fun e w2 => e = .returned (.bool (sweepF now k m)) ∧ SweepCl nb now w2 (k + 1) ∧ Chg (fun b => b = nb) w1 w2) (hMlt : ∀ b, M b → b < w.heap.size) :
    Calls Try.prog 70 #[.pointer (some ⟨lb, 0, none⟩), .func (.func 71) #[] #[.pointer (some ⟨nb, 0, none⟩)]] w (SplitPost w M (fun b => b = nb) lb ln pl (sweepF now) ms) := by
  obtain ⟨lv, ps, rfl, hl⟩ := h
  exact (splitSweep_cA hl hNM hNl hCl clKeep hcall0 hMlt).mono fun e w' h => h.coarse hl hNM
def TakeCl (nb : Nat) (w : World) (k : Nat) : Prop := pts w nb [.int .i64 k] 3
def takeF (k : Nat) (_ : Msg) : Bool := decide (k = 0)
theorem clKeepT {nb B : Nat} (hB : nb < B) {w w' : World} {k : Nat} (h : TakeCl nb w k) (hk : ∀ b, b < B → w'.heap[b]? = w.heap[b]?) (_ : w.heap.size ≤ w'.heap.size) : TakeCl nb w' k := h.of (hk nb hB)
theorem take1_c {w : World} {nb k : Nat} (hn : TakeCl nb w k) (hk : k < 1000) (a : Option Addr) (n c : Nat) (m : Msg) : Calls Try.prog 72 #[.agg #[.slice a n c, .int .i64 m.lane, .int .i64 m.stamp, .int .i64 m.late, .int .i64 m.seq], .pointer (some ⟨nb, 0, none⟩)] w fun e w' => e = .returned (.bool (takeF k m)) ∧ TakeCl nb w' (k + 1) ∧ Chg (fun b => b = nb) w w' := by
  have hp : pts w nb [.int .i64 k] 3 := hn
  have hc := hp.cell 0
  have hf := hp.frozen 0
  have hlt := hp.lt
  simp only [List.getElem?_cons_zero] at hc
  have hne : nb ≠ w.heap.size := by omega
  have e0 := hid (show (((k : Int) + 1) == 1) = takeF k m by unfold takeF; by_cases h : k = 0 <;> simp [h]; omega)
  have hpF := hid (show TakeCl nb ((w.setCell ⟨nb, 0, none⟩ (.int .i64 ((k : Int) + 1))).alloc (.cells #[.slice a n c, .int .i64 m.lane, .int .i64 m.stamp, .int .i64 m.late, .int .i64 m.seq] 37)) (k + 1) from by
    have := (hp.set 0 (.int .i64 ((k : Int) + 1))).alloc (.cells #[.slice a n c, .int .i64 m.lane, .int .i64 m.stamp, .int .i64 m.late, .int .i64 m.seq] 37)
    simpa [TakeCl] using this)
  have hC : Chg (fun b => b = nb) w ((w.setCell ⟨nb, 0, none⟩ (.int .i64 ((k : Int) + 1))).alloc (.cells #[.slice a n c, .int .i64 m.lane, .int .i64 m.stamp, .int .i64 m.late, .int .i64 m.seq] 37)) := ((Chg.refl (fun b => b = nb) w).setB rfl).alloc _
  replace hC := hid hC
  clear hp hn
  go_enter Try.func72, Try.ntmps72
  go_wp2
  go_ret
  exact ⟨by rw [← e0.out] <;> rfl, hpF.out, hC.out⟩
def FlushCl (_ : World) (_ : Nat) : Prop := True
def flushF (_ : Nat) (_ : Msg) : Bool := true
set_option maxHeartbeats 2000000 in
theorem splitTake_cA {w : World} {M : Nat → Prop} {lb : Nat} {ln pl : Int} {lv : Value} {ps : List (Value × Msg)} (hl : LanesAt w M lb ln pl lv ps) {nb : Nat} (hNM : ∀ b, b = nb → ¬ M b) (hNl : ∀ b, b = nb → b < w.heap.size) (hCl : TakeCl nb w 0) (clKeep : ∀ {w1 w2 : World} {k : Nat}, TakeCl nb w1 k → (∀ b, b < w.heap.size → w2.heap[b]? = w1.heap[b]?) → w1.heap.size ≤ w2.heap.size → TakeCl nb w2 k) (hcall0 : ∀ (w1 : World) (k : Nat) (a : Option Addr) (n c : Nat) (m : Msg), TakeCl nb w1 k → k < 1000 → Calls Try.prog 72 #[.agg #[.slice a n c, .int .i64 m.lane, .int .i64 m.stamp, .int .i64 m.late, .int .i64 m.seq], .pointer (some ⟨nb, 0, none⟩)] w1 fun e w2 => e = .returned (.bool (takeF k m)) ∧ TakeCl nb w2 (k + 1) ∧ Chg (fun b => b = nb) w1 w2) (hMlt : ∀ b, M b → b < w.heap.size) :
    Calls Try.prog 70 #[.pointer (some ⟨lb, 0, none⟩), .func (.func 72) #[] #[.pointer (some ⟨nb, 0, none⟩)]] w (SplitPostA w (fun b => b = nb) lb ln pl ps takeF) := by
  obtain ⟨c0, c1, c2, f2, hlt⟩ := hl.cells
  have hso := sorted_c hl.msgs (by have := hl.len; omega) (.inr rfl)
  have hfin := hid (fun (wr w' : World) (vo vr : Value) (h1 : TwoC (fun b => b = nb) w wr vo vr (selF (aggP takeF) 0 (sortL laneOf ps)) (selF (fun k p => !(aggP takeF) k p) 0 (sortL laneOf ps))) (he : w' = wr.setCell ⟨lb, 2, none⟩ vr) => split_finA (f := takeF) hl hNM h1 he)
  have hslen := hid (show (sortL laneOf ps).length = ps.length from sortL_len _)
  have hlen24 := hl.len
  obtain ⟨al, cl, rfl⟩ := own_shape hl.own
  replace hso := hid hso
  have hl0 := hid hl
  clear hl
  replace hCl := hid hCl
  replace hNl := hid hNl
  go_enter Try.func70, Try.ntmps70
  go_wp2_with (first | (go_at_call 55; (with_reducible refine (hso.out).mono ?_); rintro e w1 ⟨v1, rfl, hm1, hb1⟩; obtain ⟨a1, k1, rfl⟩ := hm1.shape; replace hm1 := hid hm1; replace hb1 := hid hb1))
  generalize hS : sortL laneOf ps = S at *
  replace hS := hid hS
  have hS24 : S.length ≤ 24 := by have := hslen.out; omega
  have hstart := hid (TwoC.start (N := (fun b => b = nb)) hb1.out hNl.out)
  have hCl1 := hid (clKeep hCl.out (fun b hb => hb1.out.block b hb) hb1.out.size)
  go_loopg [17, 5, 6] S.length (fun g i uo ur wr => ∃ (k : Nat) (vo vr : Value), k ≤ S.length ∧ g = S.length - k ∧ i = .int .i64 k ∧ vo = uo ∧ vr = ur ∧ TwoC (fun b => b = nb) w wr vo vr (selF (aggP takeF) 0 (S.take k)) (selF (fun k p => !(aggP takeF) k p) 0 (S.take k)) ∧ TakeCl nb wr k ∧ MsgsAt (fun b => w.heap.size ≤ b ∧ b < w1.heap.size) M wr (.slice a1 S.length k1) S ∧ w1.heap.size ≤ wr.heap.size ∧ (∀ b, vo.ownBlock = some b → w1.heap.size ≤ b) ∧ (∀ b, vr.ownBlock = some b → w1.heap.size ≤ b))
  case atStart => exact ⟨0, _, _, Nat.zero_le _, rfl, rfl, rfl, rfl, hstart.out, hCl1.out, hm1.out.mono (fun b h h2 => ⟨h, h2⟩) (fun b h _ => h), Nat.le_refl _, (fun b h => by cases h), (fun b h => by cases h)⟩
  case round =>
    obtain ⟨k, vo, vr, hk, hgk, rfl, rfl, rfl, hT, hC, hM, hz, ho1, hr1⟩ := hrel
    by_cases hkl : k < S.length
    · obtain ⟨g, o, a, c, rfl, hgm, hpe, hat, hiw⟩ := hM.at5 hkl
      have hA1 : selF (aggP takeF) 0 (S.take (k + 1)) = selF (aggP takeF) 0 (S.take k) ++ (if (aggP takeF) (0 + k) S[k] = true then [S[k]] else []) := selF_snoc (aggP takeF) 0 hkl
      have hA2 : selF (fun k p => !(aggP takeF) k p) 0 (S.take (k + 1)) = selF (fun k p => !(aggP takeF) k p) 0 (S.take k) ++ (if (!(aggP takeF) (0 + k) S[k]) = true then [S[k]] else []) := selF_snoc (fun k p => !(aggP takeF) k p) 0 hkl
      rw [hpe] at hA1 hA2
      have hla : (selF (aggP takeF) 0 (S.take k)).length ≤ 24 := Nat.le_trans (selF_le _ _ _) (by simp; omega)
      have hlb : (selF (fun k p => !(aggP takeF) k p) 0 (S.take k)).length ≤ 24 := Nat.le_trans (selF_le _ _ _) (by simp; omega)
      generalize selF (aggP takeF) 0 (S.take k) = la at hT hA1 hla
      generalize selF (fun k p => !(aggP takeF) k p) 0 (S.take k) = lb' at hT hA2 hlb
      clear hpe
      generalize S[k].2 = m at hat hiw hA1 hA2
      obtain ⟨⟨ao, co, rfl⟩, ⟨ar, cr, rfl⟩⟩ := hT.shapes
      obtain ⟨-, hcl1, hcl2, -⟩ := hM.get
      have hbA := (Below.refl wr.heap.size wr).alloc (Nat.le_refl _) (.cells #[.slice a m.words.length c, .int .i64 m.lane, .int .i64 m.stamp, .int .i64 m.late, .int .i64 m.seq] 37)
      have hpA := pts.newA wr #[.slice a m.words.length c, .int .i64 m.lane, .int .i64 m.stamp, .int .i64 m.late, .int .i64 m.seq] 37
      have hTA := hT.next hbA
      have hCA := clKeep hC (fun b hb => hbA.block b (Nat.lt_of_lt_of_le hb hT.chg.size)) hbA.size
      have hMA := hM.below hbA
      have hcall := hcall0 (wr.alloc (.cells #[.slice a m.words.length c, .int .i64 m.lane, .int .i64 m.stamp, .int .i64 m.late, .int .i64 m.seq] 37)) k a m.words.length c m hCA (by omega)
      have hnz : ¬ ((fun b => b = nb)) wr.heap.size := fun hn => by have := hNl.out wr.heap.size hn; have := hT.chg.size; omega
      obtain ⟨x0, x1, x2, x3, x4, hxl⟩ := hat
      have hagg : (aggP takeF) (0 + k) (.slice a m.words.length c, m) = takeF k m := by rw [Nat.zero_add]; rfl
      rw [hagg] at hA1 hA2
      clear hagg
      replace hTA := hid hTA
      replace hCA := hid hCA
      replace hMA := hid hMA
      replace hbA := hid hbA
      replace hpA := hid hpA
      replace hcall := hid hcall
      replace hA1 := hid hA1
      replace hA2 := hid hA2
      replace ho1 := hid ho1
      replace hr1 := hid hr1
      replace hT := hid hT
      replace hC := hid hC
      replace hM := hid hM
      replace hnz := hid hnz
      have hzA := hid (show w1.heap.size ≤ (wr.alloc (.cells #[.slice a m.words.length c, .int .i64 m.lane, .int .i64 m.stamp, .int .i64 m.late, .int .i64 m.seq] 37)).heap.size by simp; omega)
      cases hans : takeF k m with
      | true =>
        have hcall := hcall.out
        rw [hans] at hcall hA1 hA2
        replace hcall := hid hcall
        have hf1 := hid hA1
        have hf2 := hid hA2
        go_wp2_with (first | (go_at_call 72; (with_reducible refine (hcall.out).mono ?_); rintro e w2 ⟨rfl, hC2, hc2⟩; have hp2 := hpA.out.chg hc2 hnz.out; have y0 := hp2.cell 0; have y1 := hp2.cell 1; have y2 := hp2.cell 2; have y3 := hp2.cell 3; have y4 := hp2.cell 4; have yl := hp2.lt; simp only [List.getElem?_cons_zero, List.getElem?_cons_succ] at y0 y1 y2 y3 y4; have hT2 := hid ((hTA.out.step hc2).alloc (.cells #[.slice a m.words.length c, .int .i64 m.lane, .int .i64 m.stamp, .int .i64 m.late, .int .i64 m.seq] 37)); have hM2 := hid ((hMA.out.chg2 hc2 hNl.out hNM (fun b h => h.1)).below ((Below.refl _ _).alloc (Nat.le_refl _) (.cells #[.slice a m.words.length c, .int .i64 m.lane, .int .i64 m.stamp, .int .i64 m.late, .int .i64 m.seq] 37))); have hC3 := hid (clKeep hC2 (fun b hb => ((Below.refl w2.heap.size w2).alloc (Nat.le_refl _) (.cells #[.slice a m.words.length c, .int .i64 m.lane, .int .i64 m.stamp, .int .i64 m.late, .int .i64 m.seq] 37)).block b (Nat.lt_of_lt_of_le hb (Nat.le_trans hTA.out.chg.size hc2.size))) (by simp)); have hz2 := hid (Nat.le_trans hzA.out hc2.size); clear hp2) | (at_builtin; (refine hT2.out.wpA rfl (.tmp 24) (.tmp 26) rfl rfl (y := (.slice a m.words.length c, m)) rfl (heap_at _ _ _ (by simp)) (by simp [encM, Value.oneCell']) (by omega) ?_; intro g' cap' w6 hT6 hg6 hor6; have hM6 := hid (hM2.out.kept hg6.size (fun b hb hlt => hg6.block b hlt (fun e => by rcases hb with hb | hb; exact (by have := ho1.out b e.symm; omega); exact (by have := own_block_ge hT2.out.a b e.symm; have := hMlt b hb; omega)))); have hC6 := hid (clKeep hC3.out (fun b hb => hg6.block b (by have := hT2.out.chg.size; omega) (fun e => by have := own_block_ge hT2.out.a b e.symm; omega)) hg6.size); have hz6 := hid (show w1.heap.size ≤ w6.heap.size from Nat.le_trans (Nat.le_trans hz2.out (by simp)) hg6.size); have ho6 := hid (show ∀ b, (Value.slice (some ⟨g', 0, none⟩) (la.length + 1) cap').ownBlock = some b → w1.heap.size ≤ b from fun b hb => by simp only [Value.ownBlock, Option.some.injEq] at hb; subst hb; rcases hor6 with e | e; exact ho1.out _ e; exact (by have := hz2.out; simp at e; omega)); have hT6 := hid hT6; clear hg6 hor6)))
        go_roundg (S.length - (k + 1))
        case rel => exact ⟨k + 1, _, _, by omega, rfl, by go_num, rfl, rfl, by rw [hf1.out, hf2.out]; simpa using hT6.out, hC6.out, hM6.out, hz6.out, ho6.out, hr1.out⟩
        case measure => omega
      | false =>
        have hcall := hcall.out
        rw [hans] at hcall hA1 hA2
        replace hcall := hid hcall
        have hf1 := hid hA1
        have hf2 := hid hA2
        go_wp2_with (first | (go_at_call 72; (with_reducible refine (hcall.out).mono ?_); rintro e w2 ⟨rfl, hC2, hc2⟩; have hp2 := hpA.out.chg hc2 hnz.out; have y0 := hp2.cell 0; have y1 := hp2.cell 1; have y2 := hp2.cell 2; have y3 := hp2.cell 3; have y4 := hp2.cell 4; have yl := hp2.lt; simp only [List.getElem?_cons_zero, List.getElem?_cons_succ] at y0 y1 y2 y3 y4; have hT2 := hid ((hTA.out.step hc2).alloc (.cells #[.slice a m.words.length c, .int .i64 m.lane, .int .i64 m.stamp, .int .i64 m.late, .int .i64 m.seq] 37)); have hM2 := hid ((hMA.out.chg2 hc2 hNl.out hNM (fun b h => h.1)).below ((Below.refl _ _).alloc (Nat.le_refl _) (.cells #[.slice a m.words.length c, .int .i64 m.lane, .int .i64 m.stamp, .int .i64 m.late, .int .i64 m.seq] 37))); have hC3 := hid (clKeep hC2 (fun b hb => ((Below.refl w2.heap.size w2).alloc (Nat.le_refl _) (.cells #[.slice a m.words.length c, .int .i64 m.lane, .int .i64 m.stamp, .int .i64 m.late, .int .i64 m.seq] 37)).block b (Nat.lt_of_lt_of_le hb (Nat.le_trans hTA.out.chg.size hc2.size))) (by simp)); have hz2 := hid (Nat.le_trans hzA.out hc2.size); clear hp2) | (at_builtin; (refine hT2.out.wpB rfl (.tmp 28) (.tmp 30) rfl rfl (y := (.slice a m.words.length c, m)) rfl (heap_at _ _ _ (by simp)) (by simp [encM, Value.oneCell']) (by omega) ?_; intro g' cap' w6 hT6 hg6 hor6; have hM6 := hid (hM2.out.kept hg6.size (fun b hb hlt => hg6.block b hlt (fun e => by rcases hb with hb | hb; exact (by have := hr1.out b e.symm; omega); exact (by have := own_block_ge hT2.out.b b e.symm; have := hMlt b hb; omega)))); have hC6 := hid (clKeep hC3.out (fun b hb => hg6.block b (by have := hT2.out.chg.size; omega) (fun e => by have := own_block_ge hT2.out.b b e.symm; omega)) hg6.size); have hz6 := hid (show w1.heap.size ≤ w6.heap.size from Nat.le_trans (Nat.le_trans hz2.out (by simp)) hg6.size); have hr6 := hid (show ∀ b, (Value.slice (some ⟨g', 0, none⟩) (lb'.length + 1) cap').ownBlock = some b → w1.heap.size ≤ b from fun b hb => by simp only [Value.ownBlock, Option.some.injEq] at hb; subst hb; rcases hor6 with e | e; exact hr1.out _ e; exact (by have := hz2.out; simp at e; omega)); have hT6 := hid hT6; clear hg6 hor6)))
        go_roundg (S.length - (k + 1))
        case rel => exact ⟨k + 1, _, _, by omega, rfl, by go_num, rfl, rfl, by rw [hf1.out, hf2.out]; simpa using hT6.out, hC6.out, hM6.out, hz6.out, ho1.out, hr6.out⟩
        case measure => omega
    · obtain rfl : k = S.length := by omega
      rw [List.take_length] at hT
      have hl2 := hl0.out.at_.chg hT.chg (fun hn => hNM _ hn hl0.out.mine)
      have s2 := hl2.cell 2
      have sf := hl2.frozen 2
      have sl := hl2.lt
      simp only [List.getElem?_cons_zero, List.getElem?_cons_succ] at s2
      obtain ⟨⟨ao, co, rfl⟩, ⟨ar, cr, rfl⟩⟩ := hT.shapes
      have hf := hid (hfin.out wr _ _ _ hT rfl)
      obtain ⟨-, hcl1, hcl2, -⟩ := hM.get
      clear hT hC hM hl2
      go_wp2
      go_ret
      exact hf.out
theorem splitTake_c {w : World} {M : Nat → Prop} {lb : Nat} {ln pl : Int} {ms : List Msg} (h : LanesM w M lb ln pl ms) {nb : Nat} (hNM : ∀ b, b = nb → ¬ M b) (hNl : ∀ b, b = nb → b < w.heap.size) (hCl : TakeCl nb w 0) (clKeep : ∀ {w1 w2 : World} {k : Nat}, TakeCl nb w1 k → (∀ b, b < w.heap.size → w2.heap[b]? = w1.heap[b]?) → w1.heap.size ≤ w2.heap.size → TakeCl nb w2 k) (hcall0 : ∀ (w1 : World) (k : Nat) (a : Option Addr) (n c : Nat) (m : Msg), TakeCl nb w1 k → k < 1000 → Calls Try.prog 72 #[.agg #[.slice a n c, .int .i64 m.lane, .int .i64 m.stamp, .int .i64 m.late, .int .i64 m.seq], .pointer (some ⟨nb, 0, none⟩)] w1 fun e w2 => e = .returned (.bool (takeF k m)) ∧ TakeCl nb w2 (k + 1) ∧ Chg (fun b => b = nb) w1 w2) (hMlt : ∀ b, M b → b < w.heap.size) :
    Calls Try.prog 70 #[.pointer (some ⟨lb, 0, none⟩), .func (.func 72) #[] #[.pointer (some ⟨nb, 0, none⟩)]] w (SplitPost w M (fun b => b = nb) lb ln pl takeF ms) := by
  obtain ⟨lv, ps, rfl, hl⟩ := h
  exact (splitTake_cA hl hNM hNl hCl clKeep hcall0 hMlt).mono fun e w' h => h.coarse hl hNM
theorem split_nil (w : World) (f : Value) : Calls Try.prog 70 #[.pointer none, f] w fun e w' => e = .returned (.slice none 0 0) ∧ w = w' := by
  go_enter Try.func70, Try.ntmps70
  go_wp2
  go_ret
  exact ⟨rfl, rfl⟩
end Go.Proofs.Ytggfallodkbgcaa.La
