/- DERIVED. The walk over the port's All: copies of all its messages. -/
import Derived.Test.YtnlmkllhmldgiaaQueueG
namespace Go.Proofs.Ytnlmkllhmldgiaa.Qu
set_option linter.unusedVariables false
set_option linter.unusedSimpArgs false
open Go.RowKit Go.Maps Go.Proofs.Ytnlmkllhmldgiaa.K Go.Proofs.Ytnlmkllhmldgiaa.Lb Go.Proofs.Ytnlmkllhmldgiaa.Wh
section
variable {w : World} {base pb wb mb : Nat} {hold : Int} {lv rv : Value} {ps : List (Value × Msg)} {xs : List Int} {n : Nat} {D : DataW Unit} {s : Int}
def AllPost (w : World) (ps : List (Value × Msg)) (e : Ending) (w' : World) : Prop :=
  ∃ v' qs, e = .returned v' ∧ qs.map Prod.snd = ps.map Prod.snd ∧ MsgsAt (fun b => w.heap.size ≤ b) (fun b => w.heap.size ≤ b) w' v' qs ∧ Below w.heap.size w w'
set_option maxHeartbeats 2000000 in
theorem all_c (h : PortAt w base pb wb mb hold lv rv ps xs n D s) (hsm : ps.length < 1000000) (hwl : ∀ p ∈ ps, p.2.words.length ≤ 17592186044416) : Calls Try.prog 20 #[.pointer (some ⟨pb, 0, none⟩)] w (AllPost w ps) := by
  obtain ⟨c0, c1, c2, c3, f2, f3, hpl⟩ := h.cells
  have hms := MsgsAt.of_own h.l h.words
  obtain ⟨al, cl, rfl⟩ := own_shape h.l
  obtain ⟨-, hl1, hm1, hget⟩ := hms.get
  have hget := hid hget
  have hwl := hid hwl
  have h := hid h
  clear hms
  go_enter Try.func20, Try.ntmps20
  go_wp2
  go_loopg [13, 3] ps.length (fun g i uo wr => ∃ (k : Nat) (vo : Value) (qs : List (Value × Msg)), k ≤ ps.length ∧ g = ps.length - k ∧ i = .int .i64 k ∧ vo = uo ∧ qs.map Prod.snd = (ps.take k).map Prod.snd ∧ wr.ownsRow w.heap.size 27 5 vo qs.length (flat encM qs) ∧ WordsIn (fun b => w.heap.size ≤ b ∧ vo.ownBlock ≠ some b) wr qs ∧ Below w.heap.size w wr)
  case atStart => exact ⟨0, _, [], Nat.zero_le _, rfl, rfl, rfl, rfl, World.ownsRow_nil _ _ _ _, WordsIn.nil _ _, Below.refl _ _⟩
  case round =>
    obtain ⟨k, vo, qs, hk, hgk, rfl, rfl, hq, ho, hw, hb⟩ := hrel
    by_cases hlt : k < ps.length
    · obtain ⟨ga, oa, rfl, -, hga, x0, x1, x2, x3, x4, hw1⟩ := hget.out k hlt
      have x0 := (hb.cell (p := ⟨ga, oa + k * 5, none⟩) hga).trans x0
      have x1 := (hb.cell (p := ⟨ga, oa + k * 5 + 1, none⟩) hga).trans x1
      have x2 := (hb.cell (p := ⟨ga, oa + k * 5 + 2, none⟩) hga).trans x2
      have x3 := (hb.cell (p := ⟨ga, oa + k * 5 + 3, none⟩) hga).trans x3
      have x4 := (hb.cell (p := ⟨ga, oa + k * 5 + 4, none⟩) hga).trans x4
      have hw1 := hw1.below hb
      have hwk := hwl.out _ (List.getElem_mem hlt)
      have hql : qs.length = k := by have := congrArg List.length hq; simp at this; omega
      have hq1 : ∀ sv, (qs ++ [(sv, ps[k].2)]).map Prod.snd = (ps.take (k + 1)).map Prod.snd := fun sv => by rw [List.take_succ_eq_append_getElem hlt, List.map_append, List.map_append, hq]; rfl
      obtain ⟨as1, cs1, hs1⟩ := hw1.shape
      rw [hs1] at x0 hw1
      clear hs1
      generalize ps[k].2 = m at x0 x1 x2 x3 x4 hw1 hwk hq1
      obtain ⟨ao, co, rfl⟩ := own_shape ho
      have hbs := hb.size
      have hb1 := (Below.refl wr.heap.size wr).alloc (Nat.le_refl _) (.cells #[.slice as1 m.words.length cs1, .int .i64 m.lane, .int .i64 m.stamp, .int .i64 m.late, .int .i64 m.seq] 27)
      have hcl : Calls Try.prog 38 #[.agg #[.slice as1 m.words.length cs1, .int .i64 m.lane, .int .i64 m.stamp, .int .i64 m.late, .int .i64 m.seq]] (wr.alloc (.cells #[.slice as1 m.words.length cs1, .int .i64 m.lane, .int .i64 m.stamp, .int .i64 m.late, .int .i64 m.seq] 27)) fun e w' => ∃ v', e = .returned (.agg #[v', .int .i64 m.lane, .int .i64 m.stamp, .int .i64 m.late, .int .i64 m.seq]) ∧ IntsAt (fun b => (wr.alloc (.cells #[.slice as1 m.words.length cs1, .int .i64 m.lane, .int .i64 m.stamp, .int .i64 m.late, .int .i64 m.seq] 27)).heap.size ≤ b) w' v' m.words ∧ Below (wr.alloc (.cells #[.slice as1 m.words.length cs1, .int .i64 m.lane, .int .i64 m.stamp, .int .i64 m.late, .int .i64 m.seq] 27)).heap.size (wr.alloc (.cells #[.slice as1 m.words.length cs1, .int .i64 m.lane, .int .i64 m.stamp, .int .i64 m.late, .int .i64 m.seq] 27)) w' := mclone_c (p := (.slice as1 m.words.length cs1, m)) (hw1.below hb1) hwk
      clear hw1
      have hcl := hid hcl
      have hb := hid hb
      have hb1 := hid hb1
      have ho := hid ho
      have hw := hid hw
      have hq1 := hid hq1
      replace hq := hid hq
      replace hql := hid hql
      go_wp2_with (first | (go_at_call 38; (with_reducible refine (hcl.out).mono ?_); rintro e w2 ⟨v', rfl, hi2, hb2⟩; obtain ⟨av, cv, rfl⟩ := hi2.shape; have hz2 := hb2.size; have hb12 := hid (Below.next hb1.out hb2 (by simp)); have hi2 := hid hi2; clear hb2) | (at_builtin; (refine wpList_push2 rfl (.tmp 17) (.tmp 20) 44 rfl elMsg (v := .slice ao qs.length co) rfl ((own_of ho.out (fun b e => hb12.out.block b (own_lt ho.out e))).alloc _) (by simp at hz2 ⊢; omega) rfl (news := encM (.slice av m.words.length cv, m)) rfl (heap_at _ _ _ (by simp)) (by simp [encM, Value.oneCell']) (by omega) (by have := hql.out; unfold maxLen; omega) (by have := hql.out; omega) ?_; intro g' cap' w5 hown5 hg5 hor5 hlt5; have hB5 := hid (((Below.next hb.out hb12.out hbs).alloc (by simp at hz2 ⊢; omega) _).grown hg5 (by simp at hz2 ⊢; omega) (fun c hc => own_block_ge ho.out c hc)); have hown5 := hid hown5; have hg5 := hid hg5; have hor5 := hid hor5)))
      have hlt2 : w2.heap.size < (w2.alloc (.cells #[.slice av m.words.length cv, .int .i64 m.lane, .int .i64 m.stamp, .int .i64 m.late, .int .i64 m.seq] 27)).heap.size := by simp
      have hwz : wr.heap.size + 1 ≤ w2.heap.size := by simpa using hz2
      have hWq : WordsIn (fun b => w.heap.size ≤ b ∧ (Value.slice (some ⟨g', 0, none⟩) (qs.length + 1) cap').ownBlock ≠ some b) w5 (qs ++ [(.slice av m.words.length cv, m)]) := by
        refine WordsIn.snoc ?_ ?_
        · have h1 := hw.out.below (hb12.out.alloc (by omega) (.cells #[.slice av m.words.length cv, .int .i64 m.lane, .int .i64 m.stamp, .int .i64 m.late, .int .i64 m.seq] 27))
          refine (h1.kept (w' := w5) hg5.out.size (fun b hb' hlt => hg5.out.block b hlt (fun e => hb'.2 e.symm))).mono' (fun b hb' hlt => ⟨hb'.1, fun e => ?_⟩) hw.out
          have e : g' = b := by simpa [Value.ownBlock] using e
          rcases hor5.out with e2 | e2
          · exact hb'.2 (e ▸ e2)
          · omega
        · have h1 : IntsAt (fun b => wr.heap.size + 1 ≤ b ∧ b < w2.heap.size) w2 (.slice av m.words.length cv) m.words := hi2.out.mono (fun b h h' => ⟨by simpa using h, h'⟩)
          have h2 := h1.below ((Below.refl w2.heap.size w2).alloc (Nat.le_refl _) (.cells #[.slice av m.words.length cv, .int .i64 m.lane, .int .i64 m.stamp, .int .i64 m.late, .int .i64 m.seq] 27))
          refine (h2.kept (w' := w5) hg5.out.size (fun b hb' hlt => hg5.out.block b hlt (fun e => by have := own_lt ho.out e.symm; omega))).mono (fun b hb' _ => ⟨by omega, fun e => ?_⟩)
          have e : g' = b := by simpa [Value.ownBlock] using e
          rcases hor5.out with e2 | e2
          · have := own_lt ho.out e2; omega
          · omega
      have hWq := hid hWq
      go_roundg (ps.length - (k + 1))
      case rel => exact ⟨k + 1, _, qs ++ [(.slice av m.words.length cv, m)], by omega, rfl, by go_num, rfl, hq1.out _, by rw [List.length_append, flat_append, flat_single]; exact hown5.out, hWq.out, hB5.out⟩
      case measure => omega
    · obtain rfl : k = ps.length := by omega
      rw [List.take_length] at hq
      obtain ⟨ao, co, rfl⟩ := own_shape ho
      have hfin := hid (show AllPost w ps _ _ from ⟨_, qs, rfl, hq, MsgsAt.of_own ho (hw.mono (fun b h _ => h.1)), hb⟩)
      clear ho hw hb hq
      go_wp2
      go_ret
      exact hfin.out
end
end Go.Proofs.Ytnlmkllhmldgiaa.Qu
