/- DERIVED. The walk over the port's Sweep. -/
import Derived.Test.YtnlmkllhmldgiaaQueueE
namespace Go.Proofs.Ytnlmkllhmldgiaa.Qu
set_option linter.unusedVariables false
set_option linter.unusedSimpArgs false
open Go.RowKit Go.Maps Go.Proofs.Ytnlmkllhmldgiaa.K Go.Proofs.Ytnlmkllhmldgiaa.Lb Go.Proofs.Ytnlmkllhmldgiaa.Wh
theorem own_mono {w : World} {base base' : Nat} {T : TypeId} {k n : Nat} {v : Value} {cs : List Value} (h : w.ownsRow base T k v n cs) (hb : base' ≤ base) : w.ownsRow base' T k v n cs := by
  refine ⟨h.1, ?_⟩
  rcases h.2 with h1 | ⟨g, cap, cur, h1, h2, h3⟩
  · exact .inl h1
  · exact .inr ⟨g, cap, cur, h1, by omega, h3⟩
theorem filter_take {α : Type} {l : List α} {k : Nat} (f : α → Bool) (h : k < l.length) : (l.take (k + 1)).filter f = (l.take k).filter f ++ (if f l[k] then [l[k]] else []) := by
  rw [List.take_succ_eq_append_getElem h, List.filter_append]
  cases hf : f l[k] <;> simp [hf]
theorem own_lt {w : World} {base : Nat} {T : TypeId} {k n : Nat} {v : Value} {cs : List Value} (h : w.ownsRow base T k v n cs) {b : Nat} (hb : v.ownBlock = some b) : b < w.heap.size := by
  obtain ⟨cs, hc⟩ := own_at h hb
  exact (Array.getElem?_eq_some_iff.1 hc).1
section
variable {w : World} {base pb wb mb : Nat} {hold : Int} {lv rv : Value} {ps : List (Value × Msg)} {xs : List Int} {n : Nat} {D : DataW Unit} {s : Int}
def lateP (now : Int) (p : Value × Msg) : Bool := lateT now p.2.late
def SweepPost (w : World) (base pb wb mb : Nat) (hold : Int) (lv rv : Value) (ps : List (Value × Msg)) (xs : List Int) (n : Nat) (D : DataW Unit) (s : Int) (now : Int) (e : Ending) (w' : World) : Prop :=
  ∃ ov lv', e = .returned ov ∧ PortAt w' base pb wb mb hold lv' rv (ps.filter (fun p => !lateP now p)) xs n D s ∧ MsgsAt (fun b => w.heap.size ≤ b) (fun b => ¬ PMut pb wb mb lv rv b) w' ov (ps.filter (lateP now)) ∧ Chg (PMut pb wb mb lv rv) w w' ∧ (∀ b, ov.ownBlock = some b → ¬ PMut pb wb mb lv' rv b) ∧ (∀ b, lv'.ownBlock = some b → w.heap.size ≤ b)
set_option maxHeartbeats 2000000 in
theorem sweep_c (h : PortAt w base pb wb mb hold lv rv ps xs n D s) (hsm : ps.length < 1000000) (now : Int) : Calls Try.prog 17 #[.pointer (some ⟨pb, 0, none⟩), .int .i64 now] w (SweepPost w base pb wb mb hold lv rv ps xs n D s now) := by
  obtain ⟨c0, c1, c2, c3, f2, f3, hpl⟩ := h.cells
  have hap := hid h.apart
  have hms := MsgsAt.of_own h.l h.words
  obtain ⟨al, cl, rfl⟩ := own_shape h.l
  obtain ⟨-, hl1, hm1, hget⟩ := hms.get
  have hget := hid hget
  have hbw := hid (show base ≤ w.heap.size from Nat.le_trans h.ge.1 (Nat.le_of_lt hpl))
  have h := hid h
  clear hms
  go_enter Try.func17, Try.ntmps17
  go_wp2
  go_loopg [16, 5, 6] ps.length (fun g i uo ur wr => ∃ (k : Nat) (vo vr : Value), k ≤ ps.length ∧ g = ps.length - k ∧ i = .int .i64 k ∧ vo = uo ∧ vr = ur ∧ wr.ownsRow w.heap.size 27 5 vo ((ps.take k).filter (lateP now)).length (flat encM ((ps.take k).filter (lateP now))) ∧ wr.ownsRow w.heap.size 27 5 vr ((ps.take k).filter (fun p => !lateP now p)).length (flat encM ((ps.take k).filter (fun p => !lateP now p))) ∧ (∀ b, vo.ownBlock = some b → vr.ownBlock ≠ some b) ∧ Below w.heap.size w wr)
  case atStart => exact ⟨0, _, _, Nat.zero_le _, rfl, rfl, rfl, rfl, World.ownsRow_nil _ _ _ _, World.ownsRow_nil _ _ _ _, fun b h => (by cases h), Below.refl _ _⟩
  case round =>
    obtain ⟨k, vo, vr, hk, hgk, rfl, rfl, rfl, ho, hr, hne, hb⟩ := hrel
    by_cases hlt : k < ps.length
    · obtain ⟨ga, oa, rfl, -, hga, x0, x1, x2, x3, x4, hw1⟩ := hget.out k hlt
      have x0 := (hb.cell (p := ⟨ga, oa + k * 5, none⟩) hga).trans x0
      have x1 := (hb.cell (p := ⟨ga, oa + k * 5 + 1, none⟩) hga).trans x1
      have x2 := (hb.cell (p := ⟨ga, oa + k * 5 + 2, none⟩) hga).trans x2
      have x3 := (hb.cell (p := ⟨ga, oa + k * 5 + 3, none⟩) hga).trans x3
      have x4 := (hb.cell (p := ⟨ga, oa + k * 5 + 4, none⟩) hga).trans x4
      have hf1 := filter_take (lateP now) hlt
      have hf2 := filter_take (fun p => !lateP now p) hlt
      have hlo : ((ps.take k).filter (lateP now)).length ≤ k := Nat.le_trans (List.length_filter_le _ _) (by simp; omega)
      have hlr : ((ps.take k).filter (fun p => !lateP now p)).length ≤ k := Nat.le_trans (List.length_filter_le _ _) (by simp; omega)
      obtain ⟨as1, cs1, hs1⟩ := hw1.shape
      clear hw1
      rw [hs1] at x0
      have hpk : ps[k] = (.slice as1 ps[k].2.words.length cs1, ps[k].2) := by rw [← hs1]
      generalize ps[k] = p at x0 x1 x2 x3 x4 hf1 hf2 hpk
      clear hs1
      generalize p.2 = m at x0 x1 x2 x3 x4 hpk
      subst hpk
      generalize (ps.take k).filter (lateP now) = lo at ho hf1 hlo
      generalize (ps.take k).filter (fun p => !lateP now p) = lr at hr hf2 hlr
      obtain ⟨ao, co, rfl⟩ := own_shape ho
      obtain ⟨ar, cr, rfl⟩ := own_shape hr
      have hbs := hb.size
      have hne := hid hne
      have hb := hid hb
      have ho := hid ho
      have hr := hid hr
      cases hl : lateT now m.late with
      | true =>
        have hf1 : (ps.take (k + 1)).filter (lateP now) = lo ++ [(.slice as1 m.words.length cs1, m)] := by rw [hf1]; simp [lateP, hl]
        have hf2 : (ps.take (k + 1)).filter (fun p => !lateP now p) = lr := by rw [hf2]; simp [lateP, hl]
        have hf1 := hid hf1
        have hf2 := hid hf2
        replace hl := hid hl
        go_wp2_with (first | (go_at_call 34; (with_reducible refine (late_c _ now m.late).mono ?_); rw [hl.out]; rintro e w' ⟨rfl, rfl⟩) | (at_builtin; (refine wpList_push2 rfl (.tmp 24) (.tmp 26) 44 rfl elMsg (v := .slice ao lo.length co) rfl ((ho.out.alloc _).alloc _) (by simp; omega) rfl (news := encM (.slice as1 m.words.length cs1, m)) rfl (heap_at _ _ _ (by simp)) (by simp [encM, Value.oneCell']) (by omega) (by unfold maxLen; omega) (by omega) ?_; intro g' cap' w5 hown5 hg5 hor5 hlt5; have hdis := hid (show ∀ b, (Value.slice (some ⟨g', 0, none⟩) (lo.length + 1) cap').ownBlock = some b → (Value.slice ar lr.length cr).ownBlock ≠ some b from fun b hb5 e5 => by simp only [Value.ownBlock, Option.some.injEq] at hb5; subst hb5; rcases hor5 with e | e; exact hne.out _ e e5; exact (by have := own_lt hr.out e5; simp at e; omega)); have hk5 := hid (own_of ((hr.out.alloc _).alloc _) (fun b e => hg5.block b (by have := own_lt hr.out e; simp; omega) (fun e2 => hne.out b e2.symm e))); have hB5 := hid (((hb.out.alloc hbs _).alloc (by simp; omega) _).grown hg5 (by simp; omega) (fun c hc => own_block_ge ho.out c hc)); have hown5 := hid hown5; clear hg5 hor5)))
        go_roundg (ps.length - (k + 1))
        case rel => exact ⟨k + 1, _, _, by omega, rfl, by go_num, rfl, rfl, by rw [hf1.out, List.length_append, flat_append, flat_single]; exact hown5.out, by rw [hf2.out]; exact hk5.out, hdis.out, hB5.out⟩
        case measure => omega
      | false =>
        have hf1 : (ps.take (k + 1)).filter (lateP now) = lo := by rw [hf1]; simp [lateP, hl]
        have hf2 : (ps.take (k + 1)).filter (fun p => !lateP now p) = lr ++ [(.slice as1 m.words.length cs1, m)] := by rw [hf2]; simp [lateP, hl]
        have hf1 := hid hf1
        have hf2 := hid hf2
        replace hl := hid hl
        go_wp2_with (first | (go_at_call 34; (with_reducible refine (late_c _ now m.late).mono ?_); rw [hl.out]; rintro e w' ⟨rfl, rfl⟩) | (at_builtin; (refine wpList_push2 rfl (.tmp 28) (.tmp 30) 44 rfl elMsg (v := .slice ar lr.length cr) rfl ((hr.out.alloc _).alloc _) (by simp; omega) rfl (news := encM (.slice as1 m.words.length cs1, m)) rfl (heap_at _ _ _ (by simp)) (by simp [encM, Value.oneCell']) (by omega) (by unfold maxLen; omega) (by omega) ?_; intro g' cap' w5 hown5 hg5 hor5 hlt5; have hdis := hid (show ∀ b, (Value.slice ao lo.length co).ownBlock = some b → (Value.slice (some ⟨g', 0, none⟩) (lr.length + 1) cap').ownBlock ≠ some b from fun b hb5 e5 => by simp only [Value.ownBlock, Option.some.injEq] at e5; subst e5; rcases hor5 with e | e; exact hne.out _ hb5 e; exact (by have := own_lt ho.out hb5; simp at e; omega)); have hk5 := hid (own_of ((ho.out.alloc _).alloc _) (fun b e => hg5.block b (by have := own_lt ho.out e; simp; omega) (fun e2 => hne.out b e e2.symm))); have hB5 := hid (((hb.out.alloc hbs _).alloc (by simp; omega) _).grown hg5 (by simp; omega) (fun c hc => own_block_ge hr.out c hc)); have hown5 := hid hown5; clear hg5 hor5)))
        go_roundg (ps.length - (k + 1))
        case rel => exact ⟨k + 1, _, _, by omega, rfl, by go_num, rfl, rfl, by rw [hf1.out]; exact hk5.out, by rw [hf2.out, List.length_append, flat_append, flat_single]; exact hown5.out, hdis.out, hB5.out⟩
        case measure => omega
    · obtain rfl : k = ps.length := by omega
      rw [List.take_length] at ho hr
      have hp2 := h.out.at_.below hb
      have s2 := hp2.cell 2
      have sf := hp2.frozen 2
      have sl := hp2.lt
      simp only [List.getElem?_cons_zero, List.getElem?_cons_succ] at s2
      have hP := h.out.below hb
      have vge : ∀ c, vr.ownBlock = some c → w.heap.size ≤ c := fun c hc => own_block_ge hr c hc
      have oge : ∀ c, vo.ownBlock = some c → w.heap.size ≤ c := fun c hc => own_block_ge ho c hc
      have vne : ∀ c, vr.ownBlock = some c → c ≠ pb := fun c hc => by have := vge c hc; omega
      have one : ∀ c, vo.ownBlock = some c → c ≠ pb := fun c hc => by have := oge c hc; omega
      have hC : Chg (PMut pb wb mb (.slice al ps.length cl) rv) w (wr.setCell ⟨pb, 2, none⟩ vr) := (Chg.of_below hb).setB (.inl rfl)
      have hA : PortAt (wr.setCell ⟨pb, 2, none⟩ vr) base pb wb mb hold vr rv (ps.filter (fun p => !lateP now p)) xs n D s :=
        PortAt.anew h.out hC (by simpa using hp2.set 2 vr) (hP.wh.kept (Below.heap_setCell _ _ _ _ (Ne.symm hap.out.1)) (Below.heap_setCell _ _ _ _ (Ne.symm hap.out.2.1)))
          (own_mono (own_of hr (fun b e => Below.heap_setCell _ _ _ _ (vne b e))) hbw.out) (own_of hP.row (fun b e => Below.heap_setCell _ _ _ _ (hap.out.2.2.2.2.1 b e).1)) (fun p hp => (List.mem_filter.1 hp).1) (fun c hc => .inr (vge c hc)) (fun c hc => .inl hc)
      have hW : WordsIn (fun b => ¬ PMut pb wb mb (.slice al ps.length cl) rv b) (wr.setCell ⟨pb, 2, none⟩ vr) (ps.filter (lateP now)) := (h.out.words.sub (fun p hp => (List.mem_filter.1 hp).1)).kept hC.size (fun b hb' hlt => hC.block b hlt hb')
      have hO : MsgsAt (fun b => w.heap.size ≤ b) (fun b => ¬ PMut pb wb mb (.slice al ps.length cl) rv b) (wr.setCell ⟨pb, 2, none⟩ vr) vo (ps.filter (lateP now)) := MsgsAt.of_own (own_of ho (fun b e => Below.heap_setCell _ _ _ _ (one b e))) hW
      have hX : ∀ b, vo.ownBlock = some b → ¬ PMut pb wb mb vr rv b := fun b e hm => by
        have h1 := oge b e
        have l1 := h.out.wh.lt
        rcases hm with hm | hm | hm | hm | hm
        · exact one b e hm
        · omega
        · omega
        · exact hne b e hm
        · have := h.out.mut_lt (b := b) (.inr (.inr (.inr (.inr hm)))); omega
      obtain ⟨ao, co, rfl⟩ := own_shape ho
      obtain ⟨ar, cr, rfl⟩ := own_shape hr
      have hfin := hid (show SweepPost w base pb wb mb hold (.slice al ps.length cl) rv ps xs n D s now _ _ from ⟨_, _, rfl, hA, hO, hC, hX, vge⟩)
      clear hp2 hP hC hA hW hO hX vge oge vne one ho hr hne hb
      go_wp2
      go_ret
      exact hfin.out
end
end Go.Proofs.Ytnlmkllhmldgiaa.Qu
