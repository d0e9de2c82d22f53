/- DERIVED. Walks over lanes: Put. No statement is proved here. -/
import Derived.Test.YtggfallodkbgcaaLaneD
namespace Go.Proofs.Ytggfallodkbgcaa.La
set_option linter.unusedVariables false
set_option linter.unusedSimpArgs false
open Go.RowKit Go.Proofs.Ytggfallodkbgcaa.K Go.Proofs.Ytggfallodkbgcaa.Sp Go.Proofs.Ytggfallodkbgcaa.Lb Go.Proofs.Ytggfallodkbgcaa.So
section
variable {w w' : World} {M : Nat → Prop} {lb : Nat} {ln pl : Int} {lv : Value} {ps : List (Value × Msg)} {ms : List Msg}
theorem put_nilR (w : World) (a : Option Addr) (n c : Nat) (m : Msg) : Calls Try.prog 33 #[.pointer none, .agg #[.slice a n c, .int .i64 m.lane, .int .i64 m.stamp, .int .i64 m.late, .int .i64 m.seq]] w fun e w' => e = .returned (.int .i64 3) ∧ Below w.heap.size w w' := by
  go_enter Try.func33, Try.ntmps33
  go_wp2_with (first | (go_at_call 50; (with_reducible refine (is_nil _ _).mono ?_); rintro e w1 ⟨rfl, rfl⟩))
  go_ret
  exact ⟨rfl, (Below.refl _ _).alloc (Nat.le_refl _) _⟩
theorem put_bad (h : LanesM w M lb ln pl ms) (a : Option Addr) (n c : Nat) (m : Msg) (hi : isT ln m.lane = false) : Calls Try.prog 33 #[.pointer (some ⟨lb, 0, none⟩), .agg #[.slice a n c, .int .i64 m.lane, .int .i64 m.stamp, .int .i64 m.late, .int .i64 m.seq]] w fun e w' => e = .returned (.int .i64 3) ∧ Below w.heap.size w w' := by
  have hbA := (Below.refl w.heap.size w).alloc (Nat.le_refl _) (.cells #[.slice a n c, .int .i64 m.lane, .int .i64 m.stamp, .int .i64 m.late, .int .i64 m.seq] 37)
  have his := is_c (h.below hbA) m.lane
  rw [hi] at his
  replace hi := hid hi
  replace his := hid his
  replace h := hid h
  go_enter Try.func33, Try.ntmps33
  go_wp2_with (first | (go_at_call 50; (with_reducible refine (his.out).mono ?_); rintro e w1 ⟨rfl, rfl⟩))
  go_ret
  exact ⟨rfl, hbA⟩
theorem put_full (h : LanesM w M lb ln pl ms) (a : Option Addr) (n c : Nat) (m : Msg) (hi : isT ln m.lane = true) (hr : roomT ln pl ms m.lane = 0) : Calls Try.prog 33 #[.pointer (some ⟨lb, 0, none⟩), .agg #[.slice a n c, .int .i64 m.lane, .int .i64 m.stamp, .int .i64 m.late, .int .i64 m.seq]] w fun e w' => e = .returned (.int .i64 10) ∧ Below w.heap.size w w' := by
  have hbA := (Below.refl w.heap.size w).alloc (Nat.le_refl _) (.cells #[.slice a n c, .int .i64 m.lane, .int .i64 m.stamp, .int .i64 m.late, .int .i64 m.seq] 37)
  have his := is_c (h.below hbA) m.lane
  have hrm := room_c (h.below hbA) m.lane
  rw [hi] at his
  rw [hr] at hrm
  replace hi := hid hi
  replace hr := hid hr
  replace his := hid his
  replace hrm := hid hrm
  replace hbA := hid hbA
  replace h := hid h
  go_enter Try.func33, Try.ntmps33
  go_wp2_with (first | (go_at_call 50; (with_reducible refine (his.out).mono ?_); rintro e w1 ⟨rfl, rfl⟩) | (go_at_call 28; (with_reducible refine (hrm.out).mono ?_); rintro e w2 ⟨rfl, hb2⟩; replace hb2 := hid hb2))
  go_ret
  exact ⟨rfl, Below.next hbA.out hb2.out (by simp)⟩
theorem LanesAt.mono {M' : Nat → Prop} (h : LanesAt w M lb ln pl lv ps) (hM : ∀ b, M b → M' b) (hlt : ∀ b, M' b → b < w.heap.size) : LanesAt w M' lb ln pl lv ps :=
  ⟨h.at_, h.own, h.words.mono (fun b hb _ => ⟨hM b hb.1, hb.2⟩), hM _ h.mine, fun b e => hM b (h.mown b e), hlt, h.inv⟩
theorem grow_from {w1 : World} (hs : w.heap.size ≤ w1.heap.size) : ∀ b, grow M w1 w' b → grow M w w' b := fun b hb => by
  rcases hb with hb | hb
  · exact .inl hb
  · exact .inr ⟨Nat.le_trans hs hb.1, hb.2⟩
/-- Behind append, and the row stored. -/
theorem LanesAt.putStep {w3 w5 : World} (h : LanesAt w M lb ln pl lv ps) (hb : Below w.heap.size w w3) {q : Value × Msg} (hq : IntsAt (fun b => w.heap.size ≤ b) w3 q.1 q.2.words) {lv' : Value} (hr : w5.ownsRow 0 37 5 lv' (ps.length + 1) (flat encM ps ++ encM q)) (hg : w3.grownBy w5 lv.ownBlock) (hv : ∀ c, lv'.ownBlock = some c → (lv.ownBlock = some c ∨ c = w3.heap.size) ∧ c < w5.heap.size) (hinv : LInv ln pl (ps.map Prod.snd ++ [q.2])) :
    LanesAt (w5.setCell ⟨lb, 2, none⟩ lv') (grow M w (w5.setCell ⟨lb, 2, none⟩ lv')) lb ln pl lv' (ps ++ [q]) ∧ Chg M w (w5.setCell ⟨lb, 2, none⟩ lv') := by
  have e5 : ∀ b, b < w.heap.size → lv.ownBlock ≠ some b → w5.heap[b]? = w.heap[b]? := fun b hlt hne => (hg.block b (Nat.lt_of_lt_of_le hlt hb.size) (fun e => hne e.symm)).trans (hb.block b hlt)
  have hll := h.at_.lt
  have hp5 : pts w5 lb [.int .i64 ln, .int .i64 pl, lv] 90 := h.at_.of (e5 lb hll (fun e => h.ne lb e rfl))
  have hC0 : Chg M w w5 := ⟨hg.os.trans hb.os, hg.tape.trans hb.tape, hg.output.trans hb.output, Nat.le_trans hb.size hg.size, fun b hlt hn => e5 b hlt (fun e => hn (h.mown b e))⟩
  have hC : Chg M w (w5.setCell ⟨lb, 2, none⟩ lv') := hC0.setB h.mine
  have hsz : (w5.setCell ⟨lb, 2, none⟩ lv').heap.size = w5.heap.size := by simp
  have s1 := hb.size
  have s2 := hg.size
  have hlv : ∀ c, lv'.ownBlock = some c → c ≠ lb := fun c hc => by
    rcases (hv c hc).1 with h1 | h1
    · exact h.ne c h1
    · omega
  refine ⟨⟨by simpa using hp5.set 2 lv', ?_, ?_, .inl h.mine, fun b e => ?_, fun b hb' => ?_, by rw [List.map_append]; exact hinv⟩, hC⟩
  · have h1 : w5.ownsRow 0 37 5 lv' (ps ++ [q]).length (flat encM (ps ++ [q])) := by rw [flat_append, flat_single, List.length_append]; exact hr
    exact own_of h1 (fun b e => Below.heap_setCell _ _ _ _ (hlv b e))
  · refine WordsIn.snoc ?_ ?_
    · refine (h.words.kept (w' := w5.setCell ⟨lb, 2, none⟩ lv') hC.size (fun b hb' hlt => ?_)).mono' (fun b hb' hlt => ⟨.inl hb'.1, hb'.2.1, fun e => ?_⟩) h.words
      · rw [Below.heap_setCell _ _ _ _ hb'.2.1]
        exact e5 b hlt hb'.2.2
      · rcases (hv b e).1 with h1 | h1
        · exact hb'.2.2 h1
        · omega
    · have h5 : IntsAt (fun b => w.heap.size ≤ b ∧ b < w3.heap.size) w3 q.1 q.2.words := hq.mono (fun b h1 h2 => ⟨h1, h2⟩)
      refine (h5.kept (w' := w5.setCell ⟨lb, 2, none⟩ lv') (by rw [hsz]; exact hg.size) (fun b h1 h2 => ?_)).mono (fun b h1 h2 => ⟨.inr ⟨h1.1, h2⟩, by omega, fun e => ?_⟩)
      · rw [Below.heap_setCell _ _ _ _ (fun e => by have e : b = lb := e; omega)]
        exact hg.block b h2 (fun e => by have := h.lt b (h.mown b e.symm); omega)
      · rcases (hv b e).1 with h3 | h3
        · have := h.lt b (h.mown b h3); omega
        · omega
  · rcases (hv b e).1 with h1 | h1
    · exact .inl (h.mown b h1)
    · exact .inr ⟨by omega, by rw [hsz]; exact (hv b e).2⟩
  · rcases hb' with hb' | hb'
    · exact Nat.lt_of_lt_of_le (h.lt b hb') hC.size
    · exact hb'.2
set_option maxHeartbeats 2000000 in
set_option maxRecDepth 100000 in
/-- It is put in. -/
theorem put_ok (h : LanesM w M lb ln pl ms) {okp : Nat → Prop} {a : Option Addr} {c : Nat} {m : Msg} (hw : IntsAt okp w (.slice a m.words.length c) m.words) (hsh : m.words.length ≤ 17592186044416) (hi : isT ln m.lane = true) (hr : roomT ln pl ms m.lane ≠ 0) :
    Calls Try.prog 33 #[.pointer (some ⟨lb, 0, none⟩), .agg #[.slice a m.words.length c, .int .i64 m.lane, .int .i64 m.stamp, .int .i64 m.late, .int .i64 m.seq]] w fun e w' => e = .returned (.int .i64 0) ∧ LanesM w' (grow M w w') lb ln pl (ms ++ [m]) ∧ Chg M w w' := by
  have hbA := (Below.refl w.heap.size w).alloc (Nat.le_refl _) (.cells #[.slice a m.words.length c, .int .i64 m.lane, .int .i64 m.stamp, .int .i64 m.late, .int .i64 m.seq] 37)
  have hqA := pts.newA w #[.slice a m.words.length c, .int .i64 m.lane, .int .i64 m.stamp, .int .i64 m.late, .int .i64 m.seq] 37
  have his := is_c (h.below hbA) m.lane
  have hrm := room_c (h.below hbA) m.lane
  have hinv : LInv ln pl (ms ++ [m]) := h.inv.add (by unfold isT at hi; simpa using hi) (by
    unfold roomT at hr
    rw [hi] at hr
    have := h.inv.few m.lane
    simp only [if_true] at hr
    unfold ofM at hr
    omega) hsh
  rw [hi] at his
  have hr0 : (roomT ln pl ms m.lane == 0) = false := by simpa using hr
  generalize roomT ln pl ms m.lane = r at hrm hr0 hr
  replace hr := hid hr
  replace hi := hid hi
  replace his := hid his
  replace hrm := hid hrm
  replace hbA := hid hbA
  replace hqA := hid hqA
  replace hinv := hid hinv
  replace h := hid h
  replace hw := hid hw
  go_enter Try.func33, Try.ntmps33
  go_upto_region 5 with (first | (go_at_call 50; (with_reducible refine (his.out).mono ?_); rintro e w1 ⟨rfl, rfl⟩) | (go_at_call 28; (with_reducible refine (hrm.out).mono ?_); rintro e w2 ⟨rfl, hb2⟩; replace hb2 := hid hb2))
  have hBW := Below.next hbA.out hb2.out (by simp)
  have hqW := hqA.out.below hb2.out
  have hiW := hw.out.below hBW
  obtain ⟨lv, ps, hps, hl⟩ := h.out.below hBW
  have hbW := hid hBW
  clear hBW hqA hbA hb2 hrm his
  generalize hB1 : w.heap.size = qb at hqW hbW ⊢
  replace hB1 := hid hB1
  obtain ⟨al, cl, rfl⟩ := own_shape hl.own
  obtain ⟨c0, c1, c2, f2, hlt⟩ := hl.cells
  have m0 := hqW.cell 0
  have m1 := hqW.cell 1
  have m2 := hqW.cell 2
  have m3 := hqW.cell 3
  have m4 := hqW.cell 4
  have hql := hqW.lt
  simp only [List.getElem?_cons_zero, List.getElem?_cons_succ] at m0 m1 m2 m3 m4
  have hld : LanesAt w2.drew M lb ln pl (.slice al ps.length cl) ps := hl.below (Below.refl _ _).drew
  have hcl : Calls Try.prog 53 #[.agg #[.slice a m.words.length c, .int .i64 m.lane, .int .i64 m.stamp, .int .i64 m.late, .int .i64 m.seq]] w2.drew fun e w' => ∃ v', e = .returned (.agg #[v', .int .i64 m.lane, .int .i64 m.stamp, .int .i64 m.late, .int .i64 m.seq]) ∧ IntsAt (fun b => w2.drew.heap.size ≤ b) w' v' m.words ∧ Below w2.drew.heap.size w2.drew w' := mclone_c (p := (.slice a m.words.length c, m)) (hiW.below (Below.refl _ _).drew) hsh
  have hpl := hid hl.len
  subst hps
  replace hl := hid hl
  replace hld := hid hld
  replace hcl := hid hcl
  clear hqW hiW
  go_region_law (first | (refine step_push rfl (.tmp 21) (.tmp 24) 41 rfl elMsg (v := .slice al ps.length cl) (by simp [Act.eval, Act.put]) (hl3.out.own) (Nat.zero_le _) (by simp [Act.eval, Act.put]) (g := w3.heap.size) (m := 1) (c := 1) (news := encM (.slice av m.words.length cv, m)) rfl (heap_at _ _ _ rfl) (by simp [encM, Value.oneCell']) (by omega) (by have := hpl.out; unfold maxLen; omega) (by have := hpl.out; omega) ?_; intro g' cap' w5 hown5 hg5 hor5 hlt5; have hS := hid (LanesAt.putStep (q := (.slice av m.words.length cv, m)) hld.out (hb3.out.alloc hz3.out (.cells #[.slice av m.words.length cv, .int .i64 m.lane, .int .i64 m.stamp, .int .i64 m.late, .int .i64 m.seq] 37)) (hi3.out.below ((Below.refl _ _).alloc (Nat.le_refl _) _)) hown5 hg5 (fun c hc => by simp only [Value.ownBlock, Option.some.injEq] at hc; subst hc; exact ⟨hor5, hlt5⟩) hinv.out); have hp5 := pts.of hl3.out.at_ (hg5.block lb hl3.out.at_.lt (fun e => hl3.out.ne lb e.symm rfl)); have s2 := hp5.cell 2; have sf := hp5.frozen 2; have sl := hp5.lt; simp only [List.getElem?_cons_zero, List.getElem?_cons_succ] at s2; clear hown5 hg5 hp5) | (go_simp; go_at_call 53; (with_reducible refine hcl.out.mono ?_); rintro e w3 ⟨v', rfl, hi3, hb3⟩; obtain ⟨av, cv, rfl⟩ := hi3.shape; have hl3 := hid (((hld.out.below hb3).below ((Below.refl _ _).alloc (Nat.le_refl _) (.cells #[.slice av m.words.length cv, .int .i64 m.lane, .int .i64 m.stamp, .int .i64 m.late, .int .i64 m.seq] 37)))); have hl3' := hid (hld.out.below hb3); obtain ⟨-, -, c2', -, cl'⟩ := hl3'.out.cells; have hz3 := hid hb3.size; have hi3 := hid hi3; have hb3 := hid hb3))
  all_goals go_wp2
  all_goals go_ret
  all_goals have hbs : w.heap.size ≤ w2.drew.heap.size := by have := hbW.out.size; rw [hB1.out] at *; exact this
  all_goals have hc1 : Chg M w w2.drew := (Chg.of_below (M := M) (by have := hbW.out; rw [← hB1.out] at this; exact this)).drew
  all_goals exact ⟨rfl, ⟨_, _, by rw [List.map_append]; rfl, hS.out.1.mono (grow_from hbs) (fun b hb => by rcases hb with hb | hb; exact hS.out.1.lt b (.inl hb); exact hb.2)⟩, hc1.trans hS.out.2 (fun i hi => .inl hi)⟩
end
end Go.Proofs.Ytggfallodkbgcaa.La
