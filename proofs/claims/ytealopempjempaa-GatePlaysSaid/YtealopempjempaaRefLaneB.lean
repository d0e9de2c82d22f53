/- DERIVED. The walks over the reference's lanes: Sweep, Take. -/
import Derived.Test.YtealopempjempaaRefLane
import Derived.Test.YtealopempjempaaK5
namespace Go.Proofs.Ytealopempjempaa.Rl
set_option linter.unusedVariables false
set_option linter.unusedSimpArgs false
open Go.RowKit Go.Proofs.Ytealopempjempaa.K Go.Proofs.Ytealopempjempaa.Sp Go.Proofs.Ytealopempjempaa.Lb Go.Proofs.Ytealopempjempaa.So Go.Proofs.Ytealopempjempaa.La
/-- A slice's address is a plain one. -/
def Plain (v : Value) : Prop := ∃ ao n c, v = .slice ao n c ∧ (ao = none ∨ ∃ g o, ao = some ⟨g, o, none⟩)
theorem Plain.nil : Plain (.slice none 0 0) := ⟨none, 0, 0, rfl, .inl rfl⟩
theorem Plain.own {base : Nat} {w : World} {T : TypeId} {k : Nat} {v : Value} {n : Nat} {vs : List Value} (h : w.ownsRow base T k v n vs) : Plain v := by
  rcases h.2 with ⟨e, -⟩ | ⟨g, cp, cur, e, -⟩
  · exact ⟨none, 0, 0, e, .inl rfl⟩
  · exact ⟨_, _, _, e, .inr ⟨g, 0, rfl⟩⟩
theorem Plain.out {ao : Option Addr} {n c : Nat} (h : Plain (.slice ao n c)) : ao = none ∨ ∃ g o, ao = some ⟨g, o, none⟩ := by
  obtain ⟨_, _, _, e, h⟩ := h
  simp only [Value.slice.injEq] at e
  rw [e.1]; exact h
section
variable {w w' : World} {ok okw : Nat → Prop} {ln pl : Int} {v : Value} {ps : List (Value × Msg)} {ms : List Msg}
def lateV (now : Int) (p : Value × Msg) : Bool := lateT now p.2.late
def SweepPost (w : World) (okw : Nat → Prop) (ln pl : Int) (rest out : List (Value × Msg)) (e : Ending) (w' : World) : Prop :=
  ∃ v1 v2, e = .returned (.tuple #[.agg #[.int .i64 ln, .int .i64 pl, v1], v2]) ∧ MsgsAt (fun b => w.heap.size ≤ b) okw w' v1 rest ∧ Plain v1 ∧ MsgsAt (fun b => w.heap.size ≤ b) okw w' v2 out ∧ Below w.heap.size w w'
set_option maxHeartbeats 2000000 in
theorem sweep_c (h : MsgsAt ok okw w v ps) (hsm : ps.length < 1000000) (now : Int) : Calls Try.prog 31 #[.agg #[.int .i64 ln, .int .i64 pl, v], .int .i64 now] w (SweepPost w okw ln pl (ps.filter (fun p => !lateV now p)) (ps.filter (lateV now))) := by
  obtain ⟨ao, cap, rfl⟩ := h.shape
  have hbA := ((Below.refl w.heap.size w).alloc (Nat.le_refl _) (.cells #[.int .i64 ln, .int .i64 pl, .slice ao ps.length cap] 56)).alloc (by simp) (.cells #[.int .i64 0, .int .i64 0, .slice none 0 0] 56)
  have hpA := (pts.newA w #[.int .i64 ln, .int .i64 pl, .slice ao ps.length cap] 56).alloc (.cells #[.int .i64 0, .int .i64 0, .slice none 0 0] 56)
  have hpB : pts ((w.alloc (.cells #[.int .i64 ln, .int .i64 pl, .slice ao ps.length cap] 56)).alloc (.cells #[.int .i64 0, .int .i64 0, .slice none 0 0] 56)) (w.heap.size + 1) [.int .i64 0, .int .i64 0, .slice none 0 0] 56 := by simpa using pts.newA (w.alloc (.cells #[.int .i64 ln, .int .i64 pl, .slice ao ps.length cap] 56)) #[.int .i64 0, .int .i64 0, .slice none 0 0] 56
  have hA := h.below hbA
  obtain ⟨-, hc1, hc2, -⟩ := h.get
  have hwo := hid h.words
  have hstart := Two.start (α := Value × Msg) (β := Value × Msg) encM encM 37 37 5 5 (Below.refl ((w.alloc (.cells #[.int .i64 ln, .int .i64 pl, .slice ao ps.length cap] 56)).alloc (.cells #[.int .i64 0, .int .i64 0, .slice none 0 0] 56)).heap.size ((w.alloc (.cells #[.int .i64 ln, .int .i64 pl, .slice ao ps.length cap] 56)).alloc (.cells #[.int .i64 0, .int .i64 0, .slice none 0 0] 56))) (Nat.le_refl _)
  replace h := hid h
  go_enter Try.func31, Try.ntmps31
  go_wp2
  generalize (w.alloc (.cells #[.int .i64 ln, .int .i64 pl, .slice ao ps.length cap] 56)).alloc (.cells #[.int .i64 0, .int .i64 0, .slice none 0 0] 56) = W at hbA hpA hpB hA hstart ⊢
  have hbl := hpA.lt
  have hbl2 := hpB.lt
  generalize hB0 : w.heap.size = b0 at hpA hpB hbl hbl2 ⊢
  replace hB0 := hid hB0
  replace hstart := hid hstart
  replace hA := hid hA
  replace hbA := hid hbA
  replace hpA := hid hpA
  replace hpB := hid hpB
  go_loopg [8, 6, 7] ps.length (fun g i ua ub wr => ∃ (k : Nat) (va vb : Value), k ≤ ps.length ∧ g = ps.length - k ∧ i = .int .i64 k ∧ va = ua ∧ vb = ub ∧ Two encM encM W.heap.size W wr 37 37 5 5 va vb ((ps.take k).filter (fun p => !lateV now p)) ((ps.take k).filter (lateV now)))
  case atStart => exact ⟨0, _, _, Nat.zero_le _, rfl, rfl, rfl, rfl, hstart.out⟩
  case round =>
    obtain ⟨k, va, vb, hk, hgk, rfl, rfl, rfl, hT⟩ := hrel
    have hp2 := hid (hpA.out.below hT.below)
    have z2 := hp2.out.cell 2
    have zl := hp2.out.lt
    simp only [List.getElem?_cons_zero, List.getElem?_cons_succ] at z2
    by_cases hlt : k < ps.length
    · obtain ⟨g, o, a, c, rfl, -, hpe, hat, -⟩ := (hA.out.below hT.below).at5 hlt
      have hf1 := filter_take (lateV now) hlt
      have hf2 := filter_take (fun p => !lateV now p) hlt
      have hlo := filter_take_le ps k (lateV now)
      have hlo2 := filter_take_le ps k (fun p => !lateV now p)
      rw [hpe] at hf1 hf2
      clear hpe
      generalize (ps.take k).filter (fun p => !lateV now p) = la at hT hf2 hlo2
      generalize (ps.take k).filter (lateV now) = lo at hT hf1 hlo
      generalize ps[k].2 = m at hat hf1 hf2
      obtain ⟨⟨ao1, co1, rfl⟩, ⟨ao2, co2, rfl⟩⟩ := hT.shapes
      have hlr := hid (R2.late_c wr a m.words.length c m now)
      have hat' := hid hat
      obtain ⟨x0, x1, x2, x3, x4, hxl⟩ := hat
      replace hT := hid hT
      by_cases he : lateT now m.late = true
      · have hf1 := hid (show (ps.take (k + 1)).filter (lateV now) = lo ++ [(.slice a m.words.length c, m)] by rw [hf1]; simp [lateV, he])
        have hf2 := hid (show (ps.take (k + 1)).filter (fun p => !lateV now p) = la by rw [hf2]; simp [lateV, he])
        rw [he] at hlr
        replace he := hid he
        go_wp2_with (first | (go_at_call 60; (with_reducible refine (hlr.out).mono ?_); rintro e w7 ⟨rfl, hb7⟩; obtain ⟨y0, y1, y2, y3, y4, yl⟩ := hat'.out.below hb7; have u2 := (hp2.out.below hb7).cell 2; have ul := (hp2.out.below hb7).lt; simp only [List.getElem?_cons_zero, List.getElem?_cons_succ] at u2; have hT7 := hid (hT.out.next hb7); clear x0 x1 x2 x3 x4 hxl z2 zl hb7) | (at_builtin; (refine Two.wpB elMsg (hT7.out.alloc _) rfl (.tmp 25) (.tmp 31) rfl rfl (y := (.slice a m.words.length c, m)) rfl (heap_at _ _ _ (by simp)) rfl (by simp [encM, Value.oneCell']) (by omega) (by omega) ?_; intro g' cap' w6 hT6 hz6; have hT6 := hid hT6)))
        go_roundg (ps.length - (k + 1))
        case rel => exact ⟨k + 1, _, _, by omega, rfl, by go_num, rfl, rfl, by rw [hf1.out, hf2.out]; exact hT6.out⟩
        case measure => omega
      · replace he : lateT now m.late = false := by simpa using he
        have hf1 := hid (show (ps.take (k + 1)).filter (lateV now) = lo by rw [hf1]; simp [lateV, he])
        have hf2 := hid (show (ps.take (k + 1)).filter (fun p => !lateV now p) = la ++ [(.slice a m.words.length c, m)] by rw [hf2]; simp [lateV, he])
        rw [he] at hlr
        replace he := hid he
        go_wp2_with (first | (go_at_call 60; (with_reducible refine (hlr.out).mono ?_); rintro e w7 ⟨rfl, hb7⟩; obtain ⟨y0, y1, y2, y3, y4, yl⟩ := hat'.out.below hb7; have u2 := (hp2.out.below hb7).cell 2; have ul := (hp2.out.below hb7).lt; simp only [List.getElem?_cons_zero, List.getElem?_cons_succ] at u2; have hT7 := hid (hT.out.next hb7); clear x0 x1 x2 x3 x4 hxl z2 zl hb7) | (at_builtin; (refine Two.wpA elMsg (hT7.out.alloc _) rfl (.tmp 33) (.tmp 39) rfl rfl (y := (.slice a m.words.length c, m)) rfl (heap_at _ _ _ (by simp)) rfl (by simp [encM, Value.oneCell']) (by omega) (by omega) ?_; intro g' cap' w6 hT6 hz6; have hT6 := hid hT6)))
        go_roundg (ps.length - (k + 1))
        case rel => exact ⟨k + 1, _, _, by omega, rfl, by go_num, rfl, rfl, by rw [hf1.out, hf2.out]; exact hT6.out⟩
        case measure => omega
    · obtain rfl : k = ps.length := by omega
      rw [List.take_length] at hT
      have hq2 := hid (hpB.out.below hT.below)
      obtain ⟨⟨ao1, co1, rfl⟩, ⟨ao2, co2, rfl⟩⟩ := hT.shapes
      have z0 := hp2.out.cell 0
      have z1 := hp2.out.cell 1
      have f2 := hp2.out.frozen 2
      have h0 := hq2.out.frozen 0
      have h1 := hq2.out.frozen 1
      have h2 := hq2.out.frozen 2
      have t0 := hq2.out.cell 0
      have t1 := hq2.out.cell 1
      have t2 := hq2.out.cell 2
      have tl := hq2.out.lt
      simp only [List.getElem?_cons_zero, List.getElem?_cons_succ] at z0 z1 t0 t1 t2
      replace hT := hid hT
      have hne : b0 + 1 ≠ b0 := by omega
      have hne' : b0 ≠ b0 + 1 := by omega
      go_wp2
      have hq3 := ((((hq2.out.set_ne (a := ⟨b0, 2, none⟩) hne (.slice ao1 (ps.filter (fun p => !lateV now p)).length co1)).set 0 (.int .i64 ln)).set 1 (.int .i64 pl)).set 2 (.slice ao1 (ps.filter (fun p => !lateV now p)).length co1))
      have r0 := hq3.cell 0
      have r1 := hq3.cell 1
      have r2 := hq3.cell 2
      simp only [List.set_cons_zero, List.set_cons_succ, List.getElem?_cons_zero, List.getElem?_cons_succ] at r0 r1 r2
      have hbF : Below w.heap.size w _ := ((((Below.next hbA.out hT.out.below hbA.out.size).setCell (p := ⟨b0, 2, none⟩) (by rw [hB0.out]; exact Nat.le_refl b0) (.slice ao1 (ps.filter (fun p => !lateV now p)).length co1)).setCell (p := ⟨b0 + 1, 0, none⟩) (by rw [hB0.out]; exact Nat.le_succ b0) (.int .i64 ln)).setCell (p := ⟨b0 + 1, 1, none⟩) (by rw [hB0.out]; exact Nat.le_succ b0) (.int .i64 pl)).setCell (p := ⟨b0 + 1, 2, none⟩) (by rw [hB0.out]; exact Nat.le_succ b0) (.slice ao1 (ps.filter (fun p => !lateV now p)).length co1)
      have hkp : ∀ b, W.heap.size ≤ b → _ = wr.heap[b]? := fun b hb => (((Below.heap_setCell _ ⟨b0 + 1, 2, none⟩ (.slice ao1 (ps.filter (fun p => !lateV now p)).length co1) b (by simp only; omega)).trans (Below.heap_setCell _ ⟨b0 + 1, 1, none⟩ (.int .i64 pl) b (by simp only; omega))).trans (Below.heap_setCell _ ⟨b0 + 1, 0, none⟩ (.int .i64 ln) b (by simp only; omega))).trans (Below.heap_setCell _ ⟨b0, 2, none⟩ (.slice ao1 (ps.filter (fun p => !lateV now p)).length co1) b (by simp only; omega))
      have hoa := own_of hT.out.a (fun b e => hkp b (own_block_ge hT.out.a b e))
      have hob := own_of hT.out.b (fun b e => hkp b (own_block_ge hT.out.b b e))
      refine bodyPost_ret (v := .tuple #[.agg #[.int .i64 ln, .int .i64 pl, .slice ao1 (ps.filter (fun p => !lateV now p)).length co1], .slice ao2 (ps.filter (lateV now)).length co2]) (by simp [results, Try.results31, go_sem, r0, r1, r2]) rfl ⟨_, _, rfl, ?_, Plain.own hoa, ?_, hbF⟩
      · exact (MsgsAt.of_own hoa ((hwo.out.sub (fun p hp => (List.mem_filter.1 hp).1)).below hbF)).mono (fun b h _ => by have := hB0.out; omega) (fun b h _ => h)
      · exact (MsgsAt.of_own hob ((hwo.out.sub (fun p hp => (List.mem_filter.1 hp).1)).below hbF)).mono (fun b h _ => by have := hB0.out; omega) (fun b h _ => h)
/-- The message and the rest, of a list that isn't empty. -/
def TakePost (w : World) (ok okw : Nat → Prop) (ln pl : Int) (p : Value × Msg) (rest : List (Value × Msg)) (e : Ending) (w' : World) : Prop :=
  ∃ v1, e = .returned (.tuple #[.agg #[.int .i64 ln, .int .i64 pl, v1], .agg #[p.1, .int .i64 p.2.lane, .int .i64 p.2.stamp, .int .i64 p.2.late, .int .i64 p.2.seq], .bool true]) ∧ MsgsAt ok okw w' v1 rest ∧ Plain v1 ∧ IntsAt okw w' p.1 p.2.words ∧ Below w.heap.size w w'
theorem take_nil (w : World) (ao : Option Addr) (cap : Nat) : Calls Try.prog 30 #[.agg #[.int .i64 ln, .int .i64 pl, .slice ao 0 cap]] w fun e w' => e = .returned (.tuple #[.agg #[.int .i64 ln, .int .i64 pl, .slice ao 0 cap], .agg #[.slice none 0 0, .int .i64 0, .int .i64 0, .int .i64 0, .int .i64 0], .bool false]) ∧ Below w.heap.size w w' := by
  go_enter Try.func30, Try.ntmps30
  go_wp2
  refine bodyPost_ret (v := .tuple #[.agg #[.int .i64 ln, .int .i64 pl, .slice ao 0 cap], .agg #[.slice none 0 0, .int .i64 0, .int .i64 0, .int .i64 0, .int .i64 0], .bool false]) (by simp [results, Try.results30, go_sem]) rfl ⟨rfl, ?_⟩
  exact (((Below.refl _ _).alloc (Nat.le_refl _) _).alloc (by simp) _).alloc (by simp; omega) _
set_option maxHeartbeats 2000000 in
theorem take_c {p : Value × Msg} {rest : List (Value × Msg)} (h : MsgsAt ok okw w v (p :: rest)) : Calls Try.prog 30 #[.agg #[.int .i64 ln, .int .i64 pl, v]] w (TakePost w ok okw ln pl p rest) := by
  obtain ⟨ao, cap, rfl⟩ := h.shape
  obtain ⟨-, hc1, hc2, -⟩ := h.get
  obtain ⟨g, o, a, c, rfl, hg, hpe, hat, hiw⟩ := h.at5 (i := 0) (by simp)
  simp only [List.getElem_cons_zero] at hpe hat hiw
  obtain ⟨pv, m⟩ := p
  simp only [Prod.mk.injEq, and_true] at hpe
  subst hpe
  have hd := h.drop (k := 1) (by simp)
  simp only [List.length_cons, List.drop_succ_cons, List.drop_zero, Nat.add_sub_cancel] at hc1 hd
  have hbA := (((Below.refl w.heap.size w).alloc (Nat.le_refl _) (.cells #[.int .i64 ln, .int .i64 pl, .slice (some ⟨g, o, none⟩) (rest.length + 1) cap] 56)).alloc (by simp) (.cells #[.int .i64 0, .int .i64 0, .slice none 0 0] 56)).alloc (by simp; omega) (.cells #[.slice none 0 0, .int .i64 0, .int .i64 0, .int .i64 0, .int .i64 0] 37)
  have hp0 := ((pts.newA w #[.int .i64 ln, .int .i64 pl, .slice (some ⟨g, o, none⟩) (rest.length + 1) cap] 56).alloc (.cells #[.int .i64 0, .int .i64 0, .slice none 0 0] 56)).alloc (.cells #[.slice none 0 0, .int .i64 0, .int .i64 0, .int .i64 0, .int .i64 0] 37)
  have hp1 : pts _ (w.heap.size + 1) [.int .i64 0, .int .i64 0, .slice none 0 0] 56 := (show pts ((w.alloc (.cells #[.int .i64 ln, .int .i64 pl, .slice (some ⟨g, o, none⟩) (rest.length + 1) cap] 56)).alloc (.cells #[.int .i64 0, .int .i64 0, .slice none 0 0] 56)) (w.heap.size + 1) [.int .i64 0, .int .i64 0, .slice none 0 0] 56 by simpa using pts.newA (w.alloc (.cells #[.int .i64 ln, .int .i64 pl, .slice (some ⟨g, o, none⟩) (rest.length + 1) cap] 56)) #[.int .i64 0, .int .i64 0, .slice none 0 0] 56).alloc (.cells #[.slice none 0 0, .int .i64 0, .int .i64 0, .int .i64 0, .int .i64 0] 37)
  have hp2 : pts (((w.alloc (.cells #[.int .i64 ln, .int .i64 pl, .slice (some ⟨g, o, none⟩) (rest.length + 1) cap] 56)).alloc (.cells #[.int .i64 0, .int .i64 0, .slice none 0 0] 56)).alloc (.cells #[.slice none 0 0, .int .i64 0, .int .i64 0, .int .i64 0, .int .i64 0] 37)) (w.heap.size + 1 + 1) [.slice none 0 0, .int .i64 0, .int .i64 0, .int .i64 0, .int .i64 0] 37 := by simpa using pts.newA ((w.alloc (.cells #[.int .i64 ln, .int .i64 pl, .slice (some ⟨g, o, none⟩) (rest.length + 1) cap] 56)).alloc (.cells #[.int .i64 0, .int .i64 0, .slice none 0 0] 56)) #[.slice none 0 0, .int .i64 0, .int .i64 0, .int .i64 0, .int .i64 0] 37
  obtain ⟨x0, x1, x2, x3, x4, hxl⟩ := hat.below hbA
  simp only [Nat.zero_mul, Nat.add_zero] at x0 x1 x2 x3 x4
  have hgw : g < w.heap.size := by obtain ⟨_, _, _, _, _, hl⟩ := hat; exact hl
  clear hat
  have hz := hid hbA.size
  replace h := hid h
  replace hd := hid hd
  replace hiw := hid hiw
  have hfin : Hid (∀ (w' : World) (v1 : Value), Below w.heap.size w w' → (MsgsAt ok okw w v1 rest) → Plain v1 → TakePost w ok okw ln pl (.slice a m.words.length c, m) rest (.returned (.tuple #[.agg #[.int .i64 ln, .int .i64 pl, v1], .agg #[.slice a m.words.length c, .int .i64 m.lane, .int .i64 m.stamp, .int .i64 m.late, .int .i64 m.seq], .bool true])) w') := hid fun w' v1 hb hv hP => ⟨v1, rfl, hv.below hb, hP, hiw.out.below hb, hb⟩
  go_enter Try.func30, Try.ntmps30
  go_upto_region 1 with fail
  generalize ((w.alloc (.cells #[.int .i64 ln, .int .i64 pl, .slice (some ⟨g, o, none⟩) (rest.length + 1) cap] 56)).alloc (.cells #[.int .i64 0, .int .i64 0, .slice none 0 0] 56)).alloc (.cells #[.slice none 0 0, .int .i64 0, .int .i64 0, .int .i64 0, .int .i64 0] 37) = W at hbA hp0 hp1 hp2 x0 x1 x2 x3 x4 hxl hz ⊢
  generalize hB0 : w.heap.size = b0 at hp0 hp1 hp2 hgw ⊢
  replace hB0 := hid hB0
  replace hbA := hid hbA
  have y0 := hp0.cell 0
  have y1 := hp0.cell 1
  have y2 := hp0.cell 2
  have yl := hp0.lt
  have yf := hp0.frozen 2
  have z0 := hp1.cell 0
  have z1 := hp1.cell 1
  have z2 := hp1.cell 2
  have zl := hp1.lt
  have zf0 := hp1.frozen 0
  have zf1 := hp1.frozen 1
  have zf2 := hp1.frozen 2
  have t0 := hp2.cell 0
  have t1 := hp2.cell 1
  have t2 := hp2.cell 2
  have t3 := hp2.cell 3
  have t4 := hp2.cell 4
  have tl := hp2.lt
  have tf0 := hp2.frozen 0
  have tf1 := hp2.frozen 1
  have tf2 := hp2.frozen 2
  have tf3 := hp2.frozen 3
  have tf4 := hp2.frozen 4
  simp only [List.getElem?_cons_zero, List.getElem?_cons_succ] at y0 y1 y2 z0 z1 z2 t0 t1 t2 t3 t4
  by_cases h1 : cap = 1
  all_goals go_upto_region 5 with fail
  · have hV : MsgsAt ok okw w (.slice (some ⟨g, o, none⟩) rest.length 0) rest := by
      obtain rfl : rest = [] := List.length_eq_zero_iff.1 (by omega)
      exact ⟨_, 0, rfl, ⟨by simp, by unfold maxLen; omega, fun h => rfl⟩, WordsIn.nil _ _, .inl rfl⟩
    have hPV : Plain (.slice (some ⟨g, o, none⟩) rest.length 0) := ⟨_, _, _, rfl, .inr ⟨g, o, rfl⟩⟩
    have hsz : (W.setCell ⟨b0, 2, none⟩ (.slice (some ⟨g, o, none⟩) rest.length 0)).heap.size = W.heap.size := by simp
    have hq0 := (hp0.set 2 (.slice (some ⟨g, o, none⟩) rest.length 0)).alloc (.cells #[.slice a m.words.length c, .int .i64 m.lane, .int .i64 m.stamp, .int .i64 m.late, .int .i64 m.seq] 37)
    have hq1 := (hp1.set_ne (a := ⟨b0, 2, none⟩) (by simp only; omega) (.slice (some ⟨g, o, none⟩) rest.length 0)).alloc (.cells #[.slice a m.words.length c, .int .i64 m.lane, .int .i64 m.stamp, .int .i64 m.late, .int .i64 m.seq] 37)
    have hq2 := (hp2.set_ne (a := ⟨b0, 2, none⟩) (by simp only; omega) (.slice (some ⟨g, o, none⟩) rest.length 0)).alloc (.cells #[.slice a m.words.length c, .int .i64 m.lane, .int .i64 m.stamp, .int .i64 m.late, .int .i64 m.seq] 37)
    have hq3 := pts.newA (W.setCell ⟨b0, 2, none⟩ (.slice (some ⟨g, o, none⟩) rest.length 0)) #[.slice a m.words.length c, .int .i64 m.lane, .int .i64 m.stamp, .int .i64 m.late, .int .i64 m.seq] 37
    rw [hsz] at hq3
    have hbB := hid ((hbA.out.setCell (p := ⟨b0, 2, none⟩) (by rw [hB0.out]; exact Nat.le_refl b0) (.slice (some ⟨g, o, none⟩) rest.length 0)).alloc (by rw [hsz]; exact hz.out) (.cells #[.slice a m.words.length c, .int .i64 m.lane, .int .i64 m.stamp, .int .i64 m.late, .int .i64 m.seq] 37))
    generalize (W.setCell ⟨b0, 2, none⟩ (.slice (some ⟨g, o, none⟩) rest.length 0)).alloc (.cells #[.slice a m.words.length c, .int .i64 m.lane, .int .i64 m.stamp, .int .i64 m.late, .int .i64 m.seq] 37) = W2 at hq0 hq1 hq2 hq3 hbB ⊢
    have hne3 : b0 + 1 + 1 < W.heap.size := tl
    generalize W.heap.size = b3 at hq3 hne3 ⊢
    clear x0 x1 x2 x3 x4 y0 y1 y2 yl yf z0 z1 z2 zl zf0 zf1 zf2 t0 t1 t2 t3 t4 tl tf0 tf1 tf2 tf3 tf4 hxl hz hsz hp0 hp1 hp2
    have y0 := hq0.cell 0
    have y1 := hq0.cell 1
    have y2 := hq0.cell 2
    have yl := hq0.lt
    have z0 := hq1.cell 0
    have z1 := hq1.cell 1
    have z2 := hq1.cell 2
    have zl := hq1.lt
    have zf0 := hq1.frozen 0
    have zf1 := hq1.frozen 1
    have zf2 := hq1.frozen 2
    have t0 := hq2.cell 0
    have t1 := hq2.cell 1
    have t2 := hq2.cell 2
    have t3 := hq2.cell 3
    have t4 := hq2.cell 4
    have tl := hq2.lt
    have tf0 := hq2.frozen 0
    have tf1 := hq2.frozen 1
    have tf2 := hq2.frozen 2
    have tf3 := hq2.frozen 3
    have tf4 := hq2.frozen 4
    have x0 := hq3.cell 0
    have x1 := hq3.cell 1
    have x2 := hq3.cell 2
    have x3 := hq3.cell 3
    have x4 := hq3.cell 4
    have xl := hq3.lt
    simp only [List.set_cons_zero, List.set_cons_succ, List.getElem?_cons_zero, List.getElem?_cons_succ] at y0 y1 y2 z0 z1 z2 t0 t1 t2 t3 t4 x0 x1 x2 x3 x4
    go_region
    go_wp2
    have hr1 := ((((((((hq1.set 0 (.int .i64 ln)).set 1 (.int .i64 pl)).set 2 (.slice (some ⟨g, o, none⟩) rest.length 0)).set_ne (a := ⟨b0 + 1 + 1, 0, none⟩) (by simp only; omega) (.slice a m.words.length c)).set_ne (a := ⟨b0 + 1 + 1, 1, none⟩) (by simp only; omega) (.int .i64 m.lane)).set_ne (a := ⟨b0 + 1 + 1, 2, none⟩) (by simp only; omega) (.int .i64 m.stamp)).set_ne (a := ⟨b0 + 1 + 1, 3, none⟩) (by simp only; omega) (.int .i64 m.late)).set_ne (a := ⟨b0 + 1 + 1, 4, none⟩) (by simp only; omega) (.int .i64 m.seq)).drew
    have hr2 := ((((((((hq2.set_ne (a := ⟨b0 + 1, 0, none⟩) (by simp only; omega) (.int .i64 ln)).set_ne (a := ⟨b0 + 1, 1, none⟩) (by simp only; omega) (.int .i64 pl)).set_ne (a := ⟨b0 + 1, 2, none⟩) (by simp only; omega) (.slice (some ⟨g, o, none⟩) rest.length 0)).set 0 (.slice a m.words.length c)).set 1 (.int .i64 m.lane)).set 2 (.int .i64 m.stamp)).set 3 (.int .i64 m.late)).set 4 (.int .i64 m.seq)).drew
    have hbF := ((((((((hbB.out.setCell (p := ⟨b0 + 1, 0, none⟩) (by rw [hB0.out]; exact Nat.le_succ b0) (.int .i64 ln)).setCell (p := ⟨b0 + 1, 1, none⟩) (by rw [hB0.out]; exact Nat.le_succ b0) (.int .i64 pl)).setCell (p := ⟨b0 + 1, 2, none⟩) (by rw [hB0.out]; exact Nat.le_succ b0) (.slice (some ⟨g, o, none⟩) rest.length 0)).setCell (p := ⟨b0 + 1 + 1, 0, none⟩) (by rw [hB0.out]; exact Nat.le_succ_of_le (Nat.le_succ b0)) (.slice a m.words.length c)).setCell (p := ⟨b0 + 1 + 1, 1, none⟩) (by rw [hB0.out]; exact Nat.le_succ_of_le (Nat.le_succ b0)) (.int .i64 m.lane)).setCell (p := ⟨b0 + 1 + 1, 2, none⟩) (by rw [hB0.out]; exact Nat.le_succ_of_le (Nat.le_succ b0)) (.int .i64 m.stamp)).setCell (p := ⟨b0 + 1 + 1, 3, none⟩) (by rw [hB0.out]; exact Nat.le_succ_of_le (Nat.le_succ b0)) (.int .i64 m.late)).setCell (p := ⟨b0 + 1 + 1, 4, none⟩) (by rw [hB0.out]; exact Nat.le_succ_of_le (Nat.le_succ b0)) (.int .i64 m.seq)).drew
    clear y0 y1 y2 yl z0 z1 z2 zl zf0 zf1 zf2 t0 t1 t2 t3 t4 tl tf0 tf1 tf2 tf3 tf4 x0 x1 x2 x3 x4 xl
    have r0 := hr1.cell 0
    have r1 := hr1.cell 1
    have r2 := hr1.cell 2
    have s0 := hr2.cell 0
    have s1 := hr2.cell 1
    have s2 := hr2.cell 2
    have s3 := hr2.cell 3
    have s4 := hr2.cell 4
    simp only [List.set_cons_zero, List.set_cons_succ, List.getElem?_cons_zero, List.getElem?_cons_succ] at r0 r1 r2 s0 s1 s2 s3 s4
    exact bodyPost_ret (v := .tuple #[.agg #[.int .i64 ln, .int .i64 pl, (.slice (some ⟨g, o, none⟩) rest.length 0)], .agg #[.slice a m.words.length c, .int .i64 m.lane, .int .i64 m.stamp, .int .i64 m.late, .int .i64 m.seq], .bool true]) (by simp [results, Try.results30, go_sem, r0, r1, r2, s0, s1, s2, s3, s4]) rfl (hfin.out _ _ hbF hV hPV)
  · have hV := hd.out
    have hPV : Plain (.slice (some ⟨g, o + 5, none⟩) rest.length (cap - 1)) := ⟨_, _, _, rfl, .inr ⟨g, o + 5, rfl⟩⟩
    simp only [Nat.one_mul] at hV
    have hsz : (W.setCell ⟨b0, 2, none⟩ (.slice (some ⟨g, o + 5, none⟩) rest.length (cap - 1))).heap.size = W.heap.size := by simp
    have hq0 := (hp0.set 2 (.slice (some ⟨g, o + 5, none⟩) rest.length (cap - 1))).alloc (.cells #[.slice a m.words.length c, .int .i64 m.lane, .int .i64 m.stamp, .int .i64 m.late, .int .i64 m.seq] 37)
    have hq1 := (hp1.set_ne (a := ⟨b0, 2, none⟩) (by simp only; omega) (.slice (some ⟨g, o + 5, none⟩) rest.length (cap - 1))).alloc (.cells #[.slice a m.words.length c, .int .i64 m.lane, .int .i64 m.stamp, .int .i64 m.late, .int .i64 m.seq] 37)
    have hq2 := (hp2.set_ne (a := ⟨b0, 2, none⟩) (by simp only; omega) (.slice (some ⟨g, o + 5, none⟩) rest.length (cap - 1))).alloc (.cells #[.slice a m.words.length c, .int .i64 m.lane, .int .i64 m.stamp, .int .i64 m.late, .int .i64 m.seq] 37)
    have hq3 := pts.newA (W.setCell ⟨b0, 2, none⟩ (.slice (some ⟨g, o + 5, none⟩) rest.length (cap - 1))) #[.slice a m.words.length c, .int .i64 m.lane, .int .i64 m.stamp, .int .i64 m.late, .int .i64 m.seq] 37
    rw [hsz] at hq3
    have hbB := hid ((hbA.out.setCell (p := ⟨b0, 2, none⟩) (by rw [hB0.out]; exact Nat.le_refl b0) (.slice (some ⟨g, o + 5, none⟩) rest.length (cap - 1))).alloc (by rw [hsz]; exact hz.out) (.cells #[.slice a m.words.length c, .int .i64 m.lane, .int .i64 m.stamp, .int .i64 m.late, .int .i64 m.seq] 37))
    generalize (W.setCell ⟨b0, 2, none⟩ (.slice (some ⟨g, o + 5, none⟩) rest.length (cap - 1))).alloc (.cells #[.slice a m.words.length c, .int .i64 m.lane, .int .i64 m.stamp, .int .i64 m.late, .int .i64 m.seq] 37) = W2 at hq0 hq1 hq2 hq3 hbB ⊢
    have hne3 : b0 + 1 + 1 < W.heap.size := tl
    generalize W.heap.size = b3 at hq3 hne3 ⊢
    clear x0 x1 x2 x3 x4 y0 y1 y2 yl yf z0 z1 z2 zl zf0 zf1 zf2 t0 t1 t2 t3 t4 tl tf0 tf1 tf2 tf3 tf4 hxl hz hsz hp0 hp1 hp2
    have y0 := hq0.cell 0
    have y1 := hq0.cell 1
    have y2 := hq0.cell 2
    have yl := hq0.lt
    have z0 := hq1.cell 0
    have z1 := hq1.cell 1
    have z2 := hq1.cell 2
    have zl := hq1.lt
    have zf0 := hq1.frozen 0
    have zf1 := hq1.frozen 1
    have zf2 := hq1.frozen 2
    have t0 := hq2.cell 0
    have t1 := hq2.cell 1
    have t2 := hq2.cell 2
    have t3 := hq2.cell 3
    have t4 := hq2.cell 4
    have tl := hq2.lt
    have tf0 := hq2.frozen 0
    have tf1 := hq2.frozen 1
    have tf2 := hq2.frozen 2
    have tf3 := hq2.frozen 3
    have tf4 := hq2.frozen 4
    have x0 := hq3.cell 0
    have x1 := hq3.cell 1
    have x2 := hq3.cell 2
    have x3 := hq3.cell 3
    have x4 := hq3.cell 4
    have xl := hq3.lt
    simp only [List.set_cons_zero, List.set_cons_succ, List.getElem?_cons_zero, List.getElem?_cons_succ] at y0 y1 y2 z0 z1 z2 t0 t1 t2 t3 t4 x0 x1 x2 x3 x4
    go_region
    go_wp2
    have hr1 := ((((((((hq1.set 0 (.int .i64 ln)).set 1 (.int .i64 pl)).set 2 (.slice (some ⟨g, o + 5, none⟩) rest.length (cap - 1))).set_ne (a := ⟨b0 + 1 + 1, 0, none⟩) (by simp only; omega) (.slice a m.words.length c)).set_ne (a := ⟨b0 + 1 + 1, 1, none⟩) (by simp only; omega) (.int .i64 m.lane)).set_ne (a := ⟨b0 + 1 + 1, 2, none⟩) (by simp only; omega) (.int .i64 m.stamp)).set_ne (a := ⟨b0 + 1 + 1, 3, none⟩) (by simp only; omega) (.int .i64 m.late)).set_ne (a := ⟨b0 + 1 + 1, 4, none⟩) (by simp only; omega) (.int .i64 m.seq)).drew
    have hr2 := ((((((((hq2.set_ne (a := ⟨b0 + 1, 0, none⟩) (by simp only; omega) (.int .i64 ln)).set_ne (a := ⟨b0 + 1, 1, none⟩) (by simp only; omega) (.int .i64 pl)).set_ne (a := ⟨b0 + 1, 2, none⟩) (by simp only; omega) (.slice (some ⟨g, o + 5, none⟩) rest.length (cap - 1))).set 0 (.slice a m.words.length c)).set 1 (.int .i64 m.lane)).set 2 (.int .i64 m.stamp)).set 3 (.int .i64 m.late)).set 4 (.int .i64 m.seq)).drew
    have hbF := ((((((((hbB.out.setCell (p := ⟨b0 + 1, 0, none⟩) (by rw [hB0.out]; exact Nat.le_succ b0) (.int .i64 ln)).setCell (p := ⟨b0 + 1, 1, none⟩) (by rw [hB0.out]; exact Nat.le_succ b0) (.int .i64 pl)).setCell (p := ⟨b0 + 1, 2, none⟩) (by rw [hB0.out]; exact Nat.le_succ b0) (.slice (some ⟨g, o + 5, none⟩) rest.length (cap - 1))).setCell (p := ⟨b0 + 1 + 1, 0, none⟩) (by rw [hB0.out]; exact Nat.le_succ_of_le (Nat.le_succ b0)) (.slice a m.words.length c)).setCell (p := ⟨b0 + 1 + 1, 1, none⟩) (by rw [hB0.out]; exact Nat.le_succ_of_le (Nat.le_succ b0)) (.int .i64 m.lane)).setCell (p := ⟨b0 + 1 + 1, 2, none⟩) (by rw [hB0.out]; exact Nat.le_succ_of_le (Nat.le_succ b0)) (.int .i64 m.stamp)).setCell (p := ⟨b0 + 1 + 1, 3, none⟩) (by rw [hB0.out]; exact Nat.le_succ_of_le (Nat.le_succ b0)) (.int .i64 m.late)).setCell (p := ⟨b0 + 1 + 1, 4, none⟩) (by rw [hB0.out]; exact Nat.le_succ_of_le (Nat.le_succ b0)) (.int .i64 m.seq)).drew
    clear y0 y1 y2 yl z0 z1 z2 zl zf0 zf1 zf2 t0 t1 t2 t3 t4 tl tf0 tf1 tf2 tf3 tf4 x0 x1 x2 x3 x4 xl
    have r0 := hr1.cell 0
    have r1 := hr1.cell 1
    have r2 := hr1.cell 2
    have s0 := hr2.cell 0
    have s1 := hr2.cell 1
    have s2 := hr2.cell 2
    have s3 := hr2.cell 3
    have s4 := hr2.cell 4
    simp only [List.set_cons_zero, List.set_cons_succ, List.getElem?_cons_zero, List.getElem?_cons_succ] at r0 r1 r2 s0 s1 s2 s3 s4
    exact bodyPost_ret (v := .tuple #[.agg #[.int .i64 ln, .int .i64 pl, (.slice (some ⟨g, o + 5, none⟩) rest.length (cap - 1))], .agg #[.slice a m.words.length c, .int .i64 m.lane, .int .i64 m.stamp, .int .i64 m.late, .int .i64 m.seq], .bool true]) (by simp [results, Try.results30, go_sem, r0, r1, r2, s0, s1, s2, s3, s4]) rfl (hfin.out _ _ hbF hV hPV)
end
end Go.Proofs.Ytealopempjempaa.Rl
