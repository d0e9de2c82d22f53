/- DERIVED. Walks over lanes: clones, All, slices.DeleteFunc at lane's closure, Of, Room, Peek. No statement is proved here. -/
import Derived.Test.YtggfallodkbgcaaLaneA
namespace Go.Proofs.Ytggfallodkbgcaa.La
set_option linter.unusedVariables false
set_option linter.unusedSimpArgs false
open Go.RowKit Go.Proofs.Ytggfallodkbgcaa.K Go.Proofs.Ytggfallodkbgcaa.Sp Go.Proofs.Ytggfallodkbgcaa.Lb Go.Proofs.Ytggfallodkbgcaa.So
def ClonesPost (w : World) (ps : List (Value × Msg)) (e : Ending) (w' : World) : Prop :=
  ∃ v' qs, e = .returned v' ∧ qs.map Prod.snd = ps.map Prod.snd ∧ w'.ownsRow w.heap.size 37 5 v' qs.length (flat encM qs) ∧ WordsIn (fun b => w.heap.size ≤ b ∧ v'.ownBlock ≠ some b) w' qs ∧ Below w.heap.size w w'
set_option maxHeartbeats 2000000 in
theorem clones_c {ok okw : Nat → Prop} {w : World} {v : Value} {ps : List (Value × Msg)} (hms : MsgsAt ok okw w v ps) (hsm : ps.length < 1000000) (hwl : ∀ p ∈ ps, p.2.words.length ≤ 17592186044416) : Calls Try.prog 54 #[v] w (ClonesPost w ps) := by
  obtain ⟨al, cl, rfl⟩ := hms.shape
  obtain ⟨-, hl1, hm1, hget⟩ := hms.get
  replace hget := hid hget
  replace hwl := hid hwl
  clear hms
  go_enter Try.func54, Try.ntmps54
  go_wp2
  go_loopg [8, 3] ps.length (fun g i uo wr => ∃ (k : Nat) (vo : Value) (qs : List (Value × Msg)), k ≤ ps.length ∧ g = ps.length - k ∧ i = .int .i64 k ∧ vo = uo ∧ qs.map Prod.snd = (ps.take k).map Prod.snd ∧ wr.ownsRow w.heap.size 37 5 vo qs.length (flat encM qs) ∧ WordsIn (fun b => w.heap.size ≤ b ∧ vo.ownBlock ≠ some b) wr qs ∧ Below w.heap.size w wr)
  case atStart => exact ⟨0, _, [], Nat.zero_le _, rfl, rfl, rfl, rfl, World.ownsRow_nil _ _ _ _, WordsIn.nil _ _, Below.refl _ _⟩
  case round =>
    obtain ⟨k, vo, qs, hk, hgk, rfl, rfl, hq, ho, hw, hb⟩ := hrel
    by_cases hlt : k < ps.length
    · obtain ⟨ga, oa, rfl, -, hga, x0, x1, x2, x3, x4, hw1⟩ := hget.out k hlt
      have x0 := (hb.cell (p := ⟨ga, oa + k * 5, none⟩) hga).trans x0
      have x1 := (hb.cell (p := ⟨ga, oa + k * 5 + 1, none⟩) hga).trans x1
      have x2 := (hb.cell (p := ⟨ga, oa + k * 5 + 2, none⟩) hga).trans x2
      have x3 := (hb.cell (p := ⟨ga, oa + k * 5 + 3, none⟩) hga).trans x3
      have x4 := (hb.cell (p := ⟨ga, oa + k * 5 + 4, none⟩) hga).trans x4
      have hw1 := hw1.below hb
      have hwk := hwl.out _ (List.getElem_mem hlt)
      have hql : qs.length = k := by have := congrArg List.length hq; simp at this; omega
      have hq1 : ∀ sv, (qs ++ [(sv, ps[k].2)]).map Prod.snd = (ps.take (k + 1)).map Prod.snd := fun sv => by rw [List.take_succ_eq_append_getElem hlt, List.map_append, List.map_append, hq]; rfl
      obtain ⟨as1, cs1, hs1⟩ := hw1.shape
      rw [hs1] at x0 hw1
      clear hs1
      generalize ps[k].2 = m at x0 x1 x2 x3 x4 hw1 hwk hq1
      obtain ⟨ao, co, rfl⟩ := own_shape ho
      have hbs := hb.size
      have hb1 := (Below.refl wr.heap.size wr).alloc (Nat.le_refl _) (.cells #[.slice as1 m.words.length cs1, .int .i64 m.lane, .int .i64 m.stamp, .int .i64 m.late, .int .i64 m.seq] 37)
      have hcl : Calls Try.prog 53 #[.agg #[.slice as1 m.words.length cs1, .int .i64 m.lane, .int .i64 m.stamp, .int .i64 m.late, .int .i64 m.seq]] (wr.alloc (.cells #[.slice as1 m.words.length cs1, .int .i64 m.lane, .int .i64 m.stamp, .int .i64 m.late, .int .i64 m.seq] 37)) fun e w' => ∃ v', e = .returned (.agg #[v', .int .i64 m.lane, .int .i64 m.stamp, .int .i64 m.late, .int .i64 m.seq]) ∧ IntsAt (fun b => (wr.alloc (.cells #[.slice as1 m.words.length cs1, .int .i64 m.lane, .int .i64 m.stamp, .int .i64 m.late, .int .i64 m.seq] 37)).heap.size ≤ b) w' v' m.words ∧ Below (wr.alloc (.cells #[.slice as1 m.words.length cs1, .int .i64 m.lane, .int .i64 m.stamp, .int .i64 m.late, .int .i64 m.seq] 37)).heap.size (wr.alloc (.cells #[.slice as1 m.words.length cs1, .int .i64 m.lane, .int .i64 m.stamp, .int .i64 m.late, .int .i64 m.seq] 37)) w' := mclone_c (p := (.slice as1 m.words.length cs1, m)) (hw1.below hb1) hwk
      clear hw1
      have hcl := hid hcl
      have hb := hid hb
      have hb1 := hid hb1
      have ho := hid ho
      have hw := hid hw
      have hq1 := hid hq1
      replace hq := hid hq
      replace hql := hid hql
      go_wp2_with (first | (go_at_call 53; (with_reducible refine (hcl.out).mono ?_); rintro e w2 ⟨v', rfl, hi2, hb2⟩; obtain ⟨av, cv, rfl⟩ := hi2.shape; have hz2 := hb2.size; have hb12 := hid (Below.next hb1.out hb2 (by simp)); have hi2 := hid hi2; clear hb2) | (at_builtin; (refine wpList_push2 rfl (.tmp 12) (.tmp 15) 41 rfl elMsg (v := .slice ao qs.length co) rfl ((own_of ho.out (fun b e => hb12.out.block b (own_lt ho.out e))).alloc _) (by simp at hz2 ⊢; omega) rfl (news := encM (.slice av m.words.length cv, m)) rfl (heap_at _ _ _ (by simp)) (by simp [encM, Value.oneCell']) (by omega) (by have := hql.out; unfold maxLen; omega) (by have := hql.out; omega) ?_; intro g' cap' w5 hown5 hg5 hor5 hlt5; have hB5 := hid (((Below.next hb.out hb12.out hbs).alloc (by simp at hz2 ⊢; omega) _).grown hg5 (by simp at hz2 ⊢; omega) (fun c hc => own_block_ge ho.out c hc)); have hown5 := hid hown5; have hg5 := hid hg5; have hor5 := hid hor5)))
      have hlt2 : w2.heap.size < (w2.alloc (.cells #[.slice av m.words.length cv, .int .i64 m.lane, .int .i64 m.stamp, .int .i64 m.late, .int .i64 m.seq] 37)).heap.size := by simp
      have hwz : wr.heap.size + 1 ≤ w2.heap.size := by simpa using hz2
      have hWq : WordsIn (fun b => w.heap.size ≤ b ∧ (Value.slice (some ⟨g', 0, none⟩) (qs.length + 1) cap').ownBlock ≠ some b) w5 (qs ++ [(.slice av m.words.length cv, m)]) := by
        refine WordsIn.snoc ?_ ?_
        · have h1 := hw.out.below (hb12.out.alloc (by omega) (.cells #[.slice av m.words.length cv, .int .i64 m.lane, .int .i64 m.stamp, .int .i64 m.late, .int .i64 m.seq] 37))
          refine (h1.kept (w' := w5) hg5.out.size (fun b hb' hlt => hg5.out.block b hlt (fun e => hb'.2 e.symm))).mono' (fun b hb' hlt => ⟨hb'.1, fun e => ?_⟩) hw.out
          have e : g' = b := by simpa [Value.ownBlock] using e
          rcases hor5.out with e2 | e2
          · exact hb'.2 (e ▸ e2)
          · omega
        · have h1 : IntsAt (fun b => wr.heap.size + 1 ≤ b ∧ b < w2.heap.size) w2 (.slice av m.words.length cv) m.words := hi2.out.mono (fun b h h' => ⟨by simpa using h, h'⟩)
          have h2 := h1.below ((Below.refl w2.heap.size w2).alloc (Nat.le_refl _) (.cells #[.slice av m.words.length cv, .int .i64 m.lane, .int .i64 m.stamp, .int .i64 m.late, .int .i64 m.seq] 37))
          refine (h2.kept (w' := w5) hg5.out.size (fun b hb' hlt => hg5.out.block b hlt (fun e => by have := own_lt ho.out e.symm; omega))).mono (fun b hb' _ => ⟨by omega, fun e => ?_⟩)
          have e : g' = b := by simpa [Value.ownBlock] using e
          rcases hor5.out with e2 | e2
          · have := own_lt ho.out e2; omega
          · omega
      have hWq := hid hWq
      go_roundg (ps.length - (k + 1))
      case rel => exact ⟨k + 1, _, qs ++ [(.slice av m.words.length cv, m)], by omega, rfl, by go_num, rfl, hq1.out _, by rw [List.length_append, flat_append, flat_single]; exact hown5.out, hWq.out, hB5.out⟩
      case measure => omega
    · obtain rfl : k = ps.length := by omega
      rw [List.take_length] at hq
      obtain ⟨ao, co, rfl⟩ := own_shape ho
      have hfin := hid (show ClonesPost w ps _ _ from ⟨_, qs, rfl, hq, ho, hw, hb⟩)
      clear ho hw hb hq
      go_wp2
      go_ret
      exact hfin.out
section
variable {w w' : World} {M : Nat → Prop} {lb : Nat} {ln pl : Int} {lv : Value} {ps : List (Value × Msg)} {ms : List Msg}
theorem all_nil (w : World) : Calls Try.prog 35 #[.pointer none] w fun e w' => e = .returned (.slice none 0 0) ∧ w = w' := by
  go_enter Try.func35, Try.ntmps35
  go_wp2
  go_ret
  exact ⟨rfl, rfl⟩
/-- Copies of all, in memory of their own. -/
def AllPost (w : World) (ms : List Msg) (e : Ending) (w' : World) : Prop :=
  ∃ v' qs, e = .returned v' ∧ qs.map Prod.snd = ms ∧ w'.ownsRow w.heap.size 37 5 v' qs.length (flat encM qs) ∧ WordsIn (fun b => w.heap.size ≤ b ∧ v'.ownBlock ≠ some b) w' qs ∧ Below w.heap.size w w'
theorem all_c (h : LanesM w M lb ln pl ms) : Calls Try.prog 35 #[.pointer (some ⟨lb, 0, none⟩)] w (AllPost w (sortM ms)) := by
  obtain ⟨lv, ps, rfl, h⟩ := h
  obtain ⟨c0, c1, c2, f2, hl⟩ := h.cells
  have hso := sorted_c h.msgs (by have := h.len; omega) (.inl rfl)
  have hfin : Hid (∀ (w1 w2 : World) v' qs, Below w.heap.size w w1 → qs.map Prod.snd = (sortL laneOf ps).map Prod.snd → w2.ownsRow w1.heap.size 37 5 v' qs.length (flat encM qs) → WordsIn (fun b => w1.heap.size ≤ b ∧ v'.ownBlock ≠ some b) w2 qs → Below w1.heap.size w1 w2 → AllPost w (sortM (ps.map Prod.snd)) (.returned v') w2) := hid fun w1 w2 v' qs hb hq ho hw hb2 =>
    ⟨v', qs, rfl, by rw [hq, sort_snd], own_mono ho hb.size, hw.mono (fun b hb' _ => ⟨Nat.le_trans hb.size hb'.1, hb'.2⟩), Below.next hb hb2 hb.size⟩
  have hlen := hid (show (sortL laneOf ps).length < 1000000 by rw [sortL_len]; have := h.len; omega)
  have hsh := hid (show ∀ p ∈ sortL laneOf ps, p.2.words.length ≤ 17592186044416 from fun p hp => h.short p ((sortL_mem _ _).1 hp))
  obtain ⟨al, cl, rfl⟩ := own_shape h.own
  replace h := hid h
  replace hso := hid hso
  go_enter Try.func35, Try.ntmps35
  go_wp2_with (first | (go_at_call 55; (with_reducible refine (hso.out).mono ?_); rintro e w1 ⟨v1, rfl, hm1, hb1⟩; obtain ⟨a1, c1', rfl⟩ := hm1.shape; replace hm1 := hid hm1; replace hb1 := hid hb1) | (go_at_call 54; (with_reducible refine (clones_c hm1.out hlen.out hsh.out).mono ?_); rintro e w2 ⟨v2, qs, rfl, hq2, ho2, hw2, hb2⟩; obtain ⟨a2, c2', rfl⟩ := own_shape ho2; have hf := hid (hfin.out _ _ _ _ hb1.out hq2 ho2 hw2 hb2); clear hq2 ho2 hw2 hb2))
  go_ret
  exact hf.out
end
end Go.Proofs.Ytggfallodkbgcaa.La
