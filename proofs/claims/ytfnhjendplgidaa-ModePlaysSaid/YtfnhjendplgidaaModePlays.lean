/- DERIVED. The walk over the statement ModePlays. -/
import Derived.Test.YtfnhjendplgidaaModeH
import Derived.Test.YtfnhjendplgidaaModeP2
import Derived.Deep.LoopGhost
import Derived.Deep.DeepCutAuto
import Derived.Deep.CutBlock
namespace Go.Proofs.Ytfnhjendplgidaa.Lw
open Go.RowKit Go.Proofs.Ytfnhjendplgidaa.K Go.Proofs.Ytfnhjendplgidaa.Md Go.Proofs.Ytfnhjendplgidaa.Rm

/-- the reference's partitions in their block, and what they read as; their rows lie apart from the program's blocks p and a. -/
structure RInv (w : World) (p a rb : Nat) (s : List Part) (va vm vs : Value) : Prop where
  at_ : pts w rb [va, vm, vs] 37
  ref : RefAt (fun b => b ≠ a ∧ b ≠ rb ∧ b ≠ p) w (.agg #[va, vm, vs]) s
  ne : rb ≠ a ∧ rb ≠ p
theorem RInv.below {w w' : World} {p a rb : Nat} {s : List Part} {va vm vs : Value} (h : RInv w p a rb s va vm vs) (hb : Below w.heap.size w w') : RInv w' p a rb s va vm vs := ⟨h.at_.below hb, h.ref.below hb, h.ne⟩
theorem RInv.chg {w w' : World} {p a rb : Nat} {s : List Part} {va vm vs : Value} (h : RInv w p a rb s va vm vs) (hc : Chg (Mine a) w w') : RInv w' p a rb s va vm vs :=
  ⟨h.at_.chg hc h.ne.1, h.ref.kept hc.size (fun b hb hlt => hc.block b hlt hb.1), h.ne⟩
/-- The reference's new partitions are laid into its block. -/
theorem RInv.put {w W : World} {p a rb : Nat} {s : List Part} {va vm vs : Value} (h : pts W rb [va, vm, vs] 37) (hne : rb ≠ a ∧ rb ≠ p) {ok : Nat → Prop} {ua um us : Value} {s' : List Part} (hr : RefAt ok W (.agg #[ua, um, us]) s') (hok : ∀ b, ok b → b < W.heap.size → b ≠ a ∧ b ≠ rb ∧ b ≠ p) (o : Obj) :
    RInv ((((W.setCell ⟨rb, 0, none⟩ ua).setCell ⟨rb, 1, none⟩ um).setCell ⟨rb, 2, none⟩ us).alloc o) p a rb s' ua um us := by
  refine ⟨by simpa using (((h.set 0 ua).set 1 um).set 2 us).alloc o, ?_, hne⟩
  have h1 := hr.mono hok
  refine h1.kept (by simp) (fun b hb hlt => ?_)
  rw [Below.heap_alloc _ _ _ (by simpa using hlt), Below.heap_setCell _ _ _ _ (by simpa using hb.2.1), Below.heap_setCell _ _ _ _ (by simpa using hb.2.1), Below.heap_setCell _ _ _ _ (by simpa using hb.2.1)]
theorem ModesAt.put {W : World} {p a rb : Nat} {s : List Part} (h : ModesAt W p a s) (hne : rb ≠ a ∧ rb ≠ p) (o : Obj) (ua um us : Value) : ModesAt ((((W.setCell ⟨rb, 0, none⟩ ua).setCell ⟨rb, 1, none⟩ um).setCell ⟨rb, 2, none⟩ us).alloc o) p a s := by
  refine h.kept ?_ ?_
  · rw [Below.heap_alloc _ _ _ (by simpa using h.lt.1), Below.heap_setCell _ _ _ _ (by simpa using Ne.symm hne.2), Below.heap_setCell _ _ _ _ (by simpa using Ne.symm hne.2), Below.heap_setCell _ _ _ _ (by simpa using Ne.symm hne.2)]
  · rw [Below.heap_alloc _ _ _ (by simpa using h.lt.2), Below.heap_setCell _ _ _ _ (by simpa using Ne.symm hne.1), Below.heap_setCell _ _ _ _ (by simpa using Ne.symm hne.1), Below.heap_setCell _ _ _ _ (by simpa using Ne.symm hne.1)]

theorem StepsAt.cells {w : World} {ao : Option Addr} {n cap : Nat} {xs : List St} (h : StepsAt w (.slice ao n cap) xs) : n = xs.length ∧ n ≤ cap ∧ cap ≤ 9223372036854775807 ∧ ∀ i (hi : i < xs.length), ∃ g o, ao = some ⟨g, o, none⟩ ∧ g < w.heap.size ∧ w.cell? ⟨g, o + i * 2, none⟩ = some (.int .i64 xs[i].k) ∧ w.cell? ⟨g, o + i * 2 + 1, none⟩ = some (.int .i64 xs[i].p) := by
  obtain ⟨ao', cap', hv, ⟨h1, h2⟩, hx⟩ := h
  simp only [Value.slice.injEq] at hv
  obtain ⟨rfl, rfl, rfl⟩ := hv
  refine ⟨rfl, h1, by simpa [maxLen] using h2, fun i hi => ?_⟩
  rcases hx with rfl | ⟨g, o, h3, h5, h6⟩
  · simp at hi
  · exact ⟨g, o, h3, h5, h6 i hi⟩
/-- The reference's struct in its block, its three slices in sight. -/
theorem RInv.open {w : World} {p a rb : Nat} {s : List Part} {va vm vs : Value} (h : RInv w p a rb s va vm vs) : ∃ ba ca bm cm bs cs, va = .slice ba s.length ca ∧ vm = .slice bm s.length cm ∧ vs = .slice bs s.length cs ∧
    w.cell? ⟨rb, 0, none⟩ = some (.slice ba s.length ca) ∧ w.cell? ⟨rb, 1, none⟩ = some (.slice bm s.length cm) ∧ w.cell? ⟨rb, 2, none⟩ = some (.slice bs s.length cs) ∧
    IntsAt (fun b => b ≠ a ∧ b ≠ rb ∧ b ≠ p) w (.slice bm s.length cm) (s.map Part.m) ∧ IntsAt (fun b => b ≠ a ∧ b ≠ rb ∧ b ≠ p) w (.slice bs s.length cs) (s.map Part.s) := by
  have r0 := h.at_.cell 0
  have r1 := h.at_.cell 1
  have r2 := h.at_.cell 2
  simp only [List.getElem?_cons_zero, List.getElem?_cons_succ] at r0 r1 r2
  obtain ⟨ra, rm, rs, e1, hra, hrm, hrs⟩ := h.ref
  obtain ⟨ba, ca, hba⟩ := hra.shape
  obtain ⟨bm, cm, hbm⟩ := hrm.shape
  obtain ⟨bs, cs, hbs⟩ := hrs.shape
  simp only [Value.agg.injEq, Array.mk.injEq, List.cons.injEq, and_true] at e1
  obtain ⟨rfl, rfl, rfl⟩ := e1
  subst hba hbm hbs
  simp only [List.length_map] at r0 r1 r2 hrm hrs ⊢
  exact ⟨_, _, _, _, _, _, rfl, rfl, rfl, r0, r1, r2, hrm, hrs⟩

theorem same_t {ok1 ok2 : Nat → Prop} {w : World} {v1 v2 : Value} {xs : List Int} (h1 : IntsAt ok1 w v1 xs) (h2 : IntsAt ok2 w v2 xs) : Calls Try.prog 21 #[v1, v2] w fun e w' => e = .returned (.bool true) ∧ Drawn w w' :=
  (R1.same_c h1 h2).mono fun e w' ⟨he, hd⟩ => ⟨by rw [he]; simp, hd⟩
/-- Behind the reference's answer, its struct laid into its block: what stands. -/
theorem put_all {w W : World} {p a rb sb : Nat} {s s' : List Part} {x y : Value} {B : Nat} {w0 : World} {va vm vs : Value} {T : TypeId} (hR : RInv w p a rb s va vm vs) (hM : ModesAt w p a s) (hP : pts w sb [x, y] T) (hs : sb ≠ rb) (hB : Below B w0 w) (hBs : B ≤ w.heap.size) (hBr : B ≤ rb) (hb : Below w.heap.size w W) {ok : Nat → Prop} {ua um us : Value}
    (hr : RefAt ok W (.agg #[ua, um, us]) s') (hok : ∀ b, ok b → b < W.heap.size → (b ≠ a ∧ b ≠ rb ∧ b ≠ p) ∨ w.heap.size ≤ b) (o : Obj) :
    ModesAt ((((W.setCell ⟨rb, 0, none⟩ ua).setCell ⟨rb, 1, none⟩ um).setCell ⟨rb, 2, none⟩ us).alloc o) p a s ∧
    RInv ((((W.setCell ⟨rb, 0, none⟩ ua).setCell ⟨rb, 1, none⟩ um).setCell ⟨rb, 2, none⟩ us).alloc o) p a rb s' ua um us ∧
    Below B w0 ((((W.setCell ⟨rb, 0, none⟩ ua).setCell ⟨rb, 1, none⟩ um).setCell ⟨rb, 2, none⟩ us).alloc o) ∧
    pts ((((W.setCell ⟨rb, 0, none⟩ ua).setCell ⟨rb, 1, none⟩ um).setCell ⟨rb, 2, none⟩ us).alloc o) sb [x, y] T := by
  have h1 := hM.lt
  have h2 := hR.at_.lt
  refine ⟨ModesAt.put (hM.below hb) hR.ne o _ _ _, RInv.put (w := w) (s := s) (hR.at_.below hb) hR.ne hr (fun b h hlt => ?_) o, ?_, ?_⟩
  · rcases hok b h hlt with h3 | h3
    · exact h3
    · omega
  · exact ((((Below.next hB hb hBs).setCell (p := ⟨rb, 0, none⟩) hBr _).setCell (p := ⟨rb, 1, none⟩) hBr _).setCell (p := ⟨rb, 2, none⟩) hBr _).alloc (by simpa using Nat.le_trans hBs hb.size) _
  · exact ((((hP.below hb).set_ne (a := ⟨rb, 0, none⟩) hs _).set_ne (a := ⟨rb, 1, none⟩) hs _).set_ne (a := ⟨rb, 2, none⟩) hs _).alloc _

set_option maxHeartbeats 4000000 in
set_option maxRecDepth 100000 in
theorem plays_c {w : World} {va vs : Value} {l : List Int} {xs : List St} (hl : IntsAt (fun _ => True) w va l) (hs : StepsAt w vs xs) : Calls Try.prog 4 #[va, vs] w (LivesPost w) := by
  have hl0 := hid hl
  have hs0 := hid hs
  obtain ⟨a1, c1, rfl⟩ := hl.shape
  obtain ⟨a2, c2, rfl⟩ := hs.shape
  clear hl hs
  go_enter Try.func4, Try.ntmps4
  go_wp2_with (first | (go_at_call 7; refine (lives_c _).mono ?_; rintro e w1 ⟨rfl, hb1⟩; have hb1 := hid hb1) | (go_at_call 12; refine (few_c (hl0.out.below hb1.out)).mono ?_; rintro e w' ⟨vl, rfl, hvl, rfl⟩; have hvl := hid hvl) | (go_at_call 8; refine (Md.new_c hvl.out).mono ?_; rintro e w2 ⟨p, a, rfl, hM2, hp2, ha2, hb2⟩; have hM2 := hid hM2; have hp2 := hid hp2; have ha2 := hid ha2; have hb2 := hid hb2) | (go_at_call 13; refine (Rm.new_c (hvl.out.below hb2.out)).mono ?_; rintro e w3 ⟨vr, rfl, hr3, hb3⟩; obtain ⟨ra, rm, rs, rfl, hra, hrm, hrs⟩ := hr3; obtain ⟨ba, ca, rfl⟩ := hra.shape; obtain ⟨bm, cm, rfl⟩ := hrm.shape; obtain ⟨bs, cs, rfl⟩ := hrs.shape; simp only [List.length_map] at hra hrm hrs; have hra := hid hra; have hrm := hid hrm; have hrs := hid hrs; have hb3 := hid hb3) | (go_at_call 14; refine (early_c _ hs0.out).mono ?_; rintro e w' ⟨v', rfl, hv', rfl⟩; generalize xs.take 80 = ys at hv'; obtain ⟨a3, c3, rfl⟩ := hv'.shape; have hv' := hid hv'))
  have hB3 := Below.next (Below.next hb1.out hb2.out hb1.out.size) hb3.out (Nat.le_trans hb1.out.size hb2.out.size)
  have hM3 := (hM2.out.below hb3.out).below ((Below.refl _ _).alloc (Nat.le_refl _) (.cells #[.slice ba (newM (l.take 6)).length ca, .slice bm (newM (l.take 6)).length cm, .slice bs (newM (l.take 6)).length cs] 37))
  have hlt2 := hM2.out.lt
  have hz3 := hb3.out.size
  have hz2 := hb2.out.size
  have hz1 := hb1.out.size
  have hp2' := hp2.out
  have ha2' := ha2.out
  have hR3 : RInv (w3.alloc (.cells #[.slice ba (newM (l.take 6)).length ca, .slice bm (newM (l.take 6)).length cm, .slice bs (newM (l.take 6)).length cs] 37)) p a w3.heap.size (newM (l.take 6)) (.slice ba (newM (l.take 6)).length ca) (.slice bm (newM (l.take 6)).length cm) (.slice bs (newM (l.take 6)).length cs) :=
    ⟨pts.newA _ _ _, (RefAt.mono ⟨_, _, _, rfl, hra.out, hrm.out, hrs.out⟩ (fun b hb hlt => ⟨by omega, by omega, by omega⟩)).below ((Below.refl _ _).alloc (Nat.le_refl _) _), by omega, by omega⟩
  have hBw := hB3.alloc (by omega) (.cells #[.slice ba (newM (l.take 6)).length ca, .slice bm (newM (l.take 6)).length cm, .slice bs (newM (l.take 6)).length cs] 37)
  have hpa : w.heap.size ≤ p ∧ w.heap.size ≤ a ∧ w.heap.size ≤ w3.heap.size := by omega
  have hS0 := hid hv'.out
  clear hl0 hs0 hvl hM2 hp2 ha2 hra hrm hrs hb1 hb2 hb3 hB3 hlt2 hz3 hz2 hz1 hp2' ha2' hv'
  generalize hgr : w3.heap.size = rb at hR3 hpa ⊢
  generalize hgs : newM (l.take 6) = s0 at hM3 hR3 hBw ⊢
  generalize (w3.alloc (.cells #[.slice ba s0.length ca, .slice bm s0.length cm, .slice bs s0.length cs] 37)) = W0 at hM3 hR3 hBw ⊢
  clear hgr hgs
  go_loopg [7] ys.length (fun g i wr => ∃ (k : Nat) (s : List Part) (va vm vs : Value), k ≤ ys.length ∧ g = ys.length - k ∧ i = .int .i64 k ∧ ModesAt wr p a s ∧ RInv wr p a rb s va vm vs ∧ Below w.heap.size w wr)
  case atStart => exact ⟨0, s0, _, _, _, Nat.zero_le _, rfl, rfl, hM3, hR3, hBw⟩
  case round =>
    clear hM3 hR3 hBw
    obtain ⟨k, s, va, vm, vs, hk, hgk, rfl, hM, hR, hB⟩ := hrel
    have hS := hS0.out.below hB
    obtain ⟨-, hcl, hcm, hget⟩ := hS.cells
    by_cases hlt : k < ys.length
    · obtain ⟨g, o, rfl, hg, ck, cp⟩ := hget k hlt
      clear hget hS
      go_upto_region 10 with fail
      have hP1 : pts (wr.alloc (.cells #[.int .i64 ys[k].k, .int .i64 ys[k].p] 41)) wr.heap.size [.int .i64 ys[k].k, .int .i64 ys[k].p] 41 := pts.newA wr _ _
      have hb1 := (Below.refl wr.heap.size wr).alloc (Nat.le_refl _) (.cells #[.int .i64 ys[k].k, .int .i64 ys[k].p] 41)
      have hM1 := hid (hM.below hb1)
      have hR1 := hid (hR.below hb1)
      have hB1 := hid (Below.next hB hb1 hB.size)
      have hsa : wr.heap.size ≠ a ∧ wr.heap.size ≠ p ∧ wr.heap.size ≠ rb := by have := hM.lt; have := hR.at_.lt; omega
      clear hM hR hB ck cp hg hb1
      generalize hsb : wr.heap.size = sb at hP1 hsa ⊢
      generalize wr.alloc (.cells #[.int .i64 ys[k].k, .int .i64 ys[k].p] 41) = W1 at hP1 hM1 hR1 hB1 ⊢
      generalize ys[k].k = K at hP1 ⊢
      generalize ys[k].p = P at hP1 ⊢
      clear hsb
      have hP1 := hid hP1
      have hsz1 : sb < W1.heap.size := hP1.out.lt
      have hK1 : W1.cell? ⟨sb, 0, none⟩ = some (.int .i64 K) := hP1.out.cell 0
      have hp1 : W1.cell? ⟨sb, 1, none⟩ = some (.int .i64 P) := hP1.out.cell 1
      go_upto_block 2 with (first | (go_at_call 15; (with_reducible refine (kind_c _ _ _).mono ?_); rintro e W3 ⟨rfl, hb3⟩; have hM3 := hid (hM1.out.below hb3); have hR3 := hid (hR1.out.below hb3); have hB3 := hid (Below.next hB1.out hb3 hB1.out.size); have hP3 := hid (hP1.out.below hb3); have hsz3 : sb < W3.heap.size := hP3.out.lt; have hp3 : W3.cell? ⟨sb, 1, none⟩ = some (.int .i64 P) := hP3.out.cell 1; clear hb3 hK1 hp1))
      go_cut [9] from 45 to 104 (fun v wx => v = .bool true ∧ ∃ va vm vs, ModesAt wx p a (stepM s (kindM K) P) ∧ RInv wx p a rb (stepM s (kindM K) P) va vm vs ∧ Below w.heap.size w wx)
      case first =>
        obtain ⟨ba, ca, bm, cm, bs, cs, rfl, rfl, rfl, r0, r1, r2, -, -⟩ := hR3.out.open
        have hle4 := hM3.out.le
        have hwf := hid hM3.out.wf
        have hage := hpa.2.2
        have hrl := hR3.out.at_.lt
        have hsrb := hid hsa.2.2
        have hrsb := Ne.symm hsa.2.2
        rcases kindM_lt K with hkd | hkd | hkd
        all_goals have hk0 := hid hkd
        · go_upto_region 15 with (first | (go_at_call 16; (with_reducible refine (Rm.fault_c hR3.out.ref hle4 P).mono ?_); rintro e w4 ⟨v4, rfl, hv4, hb4⟩; obtain ⟨ua, um, us, rfl, hua, hum, hus⟩ := hv4; obtain ⟨da, ea, rfl⟩ := hua.shape; obtain ⟨dm, em, rfl⟩ := hum.shape; obtain ⟨ds, es, rfl⟩ := hus.shape; have hr4 : RefAt _ w4 (.agg #[_, _, _]) _ := ⟨_, _, _, rfl, hua, hum, hus⟩; simp only [List.length_map] at hr4; have p4 := hR3.out.at_.below hb4; have f0 := p4.frozen 0; have f1 := p4.frozen 1; have f2 := p4.frozen 2; have y0 := p4.cell 0; have y1 := p4.cell 1; have y2 := p4.cell 2; have p4l := p4.lt; have s4l := (hP3.out.below hb4).lt; have s4 := (hP3.out.below hb4).cell 1; simp only [List.getElem?_cons_zero, List.getElem?_cons_succ] at y0 y1 y2 s4; have hr4 := hid hr4; clear hua hum hus p4; have hb4 := hid hb4))
          obtain ⟨hM5, hR5, hB5, hP5⟩ := put_all hR3.out hM3.out hP3.out hsrb.out hB3.out hB3.out.size hage hb4.out hr4.out (fun b hb hlt => by rcases hb with hb | hb; exact .inl hb; exact .inr hb) (.cells #[.slice da (faultM s P).1.length ea, .slice dm (faultM s P).1.length em, .slice ds (faultM s P).1.length es] 37)
          generalize ((((w4.setCell ⟨rb, 0, none⟩ (.slice da (faultM s P).1.length ea)).setCell ⟨rb, 1, none⟩ (.slice dm (faultM s P).1.length em)).setCell ⟨rb, 2, none⟩ (.slice ds (faultM s P).1.length es)).alloc (.cells #[.slice da (faultM s P).1.length ea, .slice dm (faultM s P).1.length em, .slice ds (faultM s P).1.length es] 37)) = W5 at hM5 hR5 hB5 hP5 ⊢
          have s5l := hP5.lt
          have s5 := hP5.cell 1
          simp only [List.getElem?_cons_zero, List.getElem?_cons_succ] at s5
          clear r0 r1 r2 f0 f1 f2 y0 y1 y2 p4l s4l s4 hP5 hkd
          have hM5 := hid hM5
          have hR5 := hid hR5
          have hB5 := hid hB5
          go_wp2_with (first | (go_at_call 9; (with_reducible refine (Md.fault_c hM5.out P).mono ?_); rintro e w6 ⟨rfl, hM6, hc6⟩; have hM6 := hid hM6; have hR6 := hid (hR5.out.chg hc6); have hB6 := hid (chg_mine hc6 hB5.out hpa.2.1); clear hc6))
          go_meet
          case rel => exact ⟨rfl, _, _, _, by have := hk0.out; simpa [stepM, this] using hM6.out, by have := hk0.out; simpa [stepM, this] using hR6.out, hB6.out⟩
        · go_upto_region 20 with (first | (go_at_call 17; (with_reducible refine (Rm.again_c hR3.out.ref hle4 hwf.out P).mono ?_); rintro e w4 ⟨v4, rfl, hv4, hb4⟩; obtain ⟨ua, um, us, rfl, hua, hum, hus⟩ := hv4; obtain ⟨da, ea, rfl⟩ := hua.shape; obtain ⟨dm, em, rfl⟩ := hum.shape; obtain ⟨ds, es, rfl⟩ := hus.shape; have hr4 : RefAt _ w4 (.agg #[_, _, _]) _ := ⟨_, _, _, rfl, hua, hum, hus⟩; simp only [List.length_map] at hr4; have p4 := hR3.out.at_.below hb4; have f0 := p4.frozen 0; have f1 := p4.frozen 1; have f2 := p4.frozen 2; have y0 := p4.cell 0; have y1 := p4.cell 1; have y2 := p4.cell 2; have p4l := p4.lt; have s4l := (hP3.out.below hb4).lt; have s4 := (hP3.out.below hb4).cell 1; simp only [List.getElem?_cons_zero, List.getElem?_cons_succ] at y0 y1 y2 s4; have hr4 := hid hr4; clear hua hum hus p4; have hb4 := hid hb4))
          obtain ⟨hM5, hR5, hB5, hP5⟩ := put_all hR3.out hM3.out hP3.out hsrb.out hB3.out hB3.out.size hage hb4.out hr4.out (fun b hb hlt => by rcases hb with hb | hb; exact .inl hb; exact .inr hb) (.cells #[.slice da (againM s P).1.length ea, .slice dm (againM s P).1.length em, .slice ds (againM s P).1.length es] 37)
          generalize ((((w4.setCell ⟨rb, 0, none⟩ (.slice da (againM s P).1.length ea)).setCell ⟨rb, 1, none⟩ (.slice dm (againM s P).1.length em)).setCell ⟨rb, 2, none⟩ (.slice ds (againM s P).1.length es)).alloc (.cells #[.slice da (againM s P).1.length ea, .slice dm (againM s P).1.length em, .slice ds (againM s P).1.length es] 37)) = W5 at hM5 hR5 hB5 hP5 ⊢
          have s5l := hP5.lt
          have s5 := hP5.cell 1
          simp only [List.getElem?_cons_zero, List.getElem?_cons_succ] at s5
          clear r0 r1 r2 f0 f1 f2 y0 y1 y2 p4l s4l s4 hP5 hkd
          have hM5 := hid hM5
          have hR5 := hid hR5
          have hB5 := hid hB5
          go_wp2_with (first | (go_at_call 18; (with_reducible refine (Md.again_c hM5.out P).mono ?_); rintro e w6 ⟨rfl, hM6, hc6⟩; have hM6 := hid hM6; have hR6 := hid (hR5.out.chg hc6); have hB6 := hid (chg_mine hc6 hB5.out hpa.2.1); clear hc6))
          go_meet
          case rel => exact ⟨rfl, _, _, _, by have := hk0.out; simpa [stepM, this] using hM6.out, by have := hk0.out; simpa [stepM, this] using hR6.out, hB6.out⟩
        · go_upto_region 24 with (first | (go_at_call 19; (with_reducible refine (Rm.up_c hR3.out.ref hle4 P).mono ?_); rintro e w4 ⟨v4, rfl, hv4, hb4⟩; obtain ⟨ua, um, us, rfl, hua, hum, hus⟩ := hv4; obtain ⟨da, ea, rfl⟩ := hua.shape; obtain ⟨dm, em, rfl⟩ := hum.shape; obtain ⟨ds, es, rfl⟩ := hus.shape; have hr4 : RefAt _ w4 (.agg #[_, _, _]) _ := ⟨_, _, _, rfl, hua, hum, hus⟩; simp only [List.length_map] at hr4; have p4 := hR3.out.at_.below hb4; have f0 := p4.frozen 0; have f1 := p4.frozen 1; have f2 := p4.frozen 2; have y0 := p4.cell 0; have y1 := p4.cell 1; have y2 := p4.cell 2; have p4l := p4.lt; have s4l := (hP3.out.below hb4).lt; have s4 := (hP3.out.below hb4).cell 1; simp only [List.getElem?_cons_zero, List.getElem?_cons_succ] at y0 y1 y2 s4; have hr4 := hid hr4; clear hua hum hus p4; have hb4 := hid hb4))
          obtain ⟨hM5, hR5, hB5, hP5⟩ := put_all hR3.out hM3.out hP3.out hsrb.out hB3.out hB3.out.size hage hb4.out hr4.out (fun b hb hlt => by rcases hb with hb | hb; exact .inl hb; exact .inr hb) (.cells #[.slice da (upM s P).1.length ea, .slice dm (upM s P).1.length em, .slice ds (upM s P).1.length es] 37)
          generalize ((((w4.setCell ⟨rb, 0, none⟩ (.slice da (upM s P).1.length ea)).setCell ⟨rb, 1, none⟩ (.slice dm (upM s P).1.length em)).setCell ⟨rb, 2, none⟩ (.slice ds (upM s P).1.length es)).alloc (.cells #[.slice da (upM s P).1.length ea, .slice dm (upM s P).1.length em, .slice ds (upM s P).1.length es] 37)) = W5 at hM5 hR5 hB5 hP5 ⊢
          have s5l := hP5.lt
          have s5 := hP5.cell 1
          simp only [List.getElem?_cons_zero, List.getElem?_cons_succ] at s5
          clear r0 r1 r2 f0 f1 f2 y0 y1 y2 p4l s4l s4 hP5 hkd
          have hM5 := hid hM5
          have hR5 := hid hR5
          have hB5 := hid hB5
          go_wp2_with (first | (go_at_call 20; (with_reducible refine (Md.up_c hM5.out P).mono ?_); rintro e w6 ⟨rfl, hM6, hc6⟩; have hM6 := hid hM6; have hR6 := hid (hR5.out.chg hc6); have hB6 := hid (chg_mine hc6 hB5.out hpa.2.1); clear hc6))
          go_meet
          case rel => exact ⟨rfl, _, _, _, by have := hk0.out; simpa [stepM, this] using hM6.out, by have := hk0.out; simpa [stepM, this] using hR6.out, hB6.out⟩
      case rest =>
        obtain ⟨rfl, va', vm', vs', hM4, hR4, hB4⟩ := hcut
        obtain ⟨ba, ca, bm, cm, bs, cs, rfl, rfl, rfl, r0, r1, r2, im, is⟩ := hR4.open
        have hwf := hM1.out.wf
        have hsl := hid (stepM_len s hwf (kindM K) P (kindM_lt K))
        have hle4 : (stepM s (kindM K) P).length ≤ 4 := by rw [hsl.out]; exact hM1.out.le
        clear hM1 hR1 hB1 hP1 hM3 hR3 hB3 hP3 hsz3 hp3 hsz1 hwf hsl r0
        generalize stepM s (kindM K) P = s' at hM4 hR4 hle4 r1 r2 im is
        have hrl := hR4.at_.lt
        have hM4 := hid hM4
        have hR4 := hid hR4
        have hB4 := hid hB4
        have im := hid im
        have is := hid is
        go_upto_region 25 with fail
        go_cut [114] (fun v wx => v = .bool false ∧ Below wc.heap.size wc wx)
        case first =>
          go_region_held3 (fun W => W.cell? ⟨rb, 1, none⟩ = some (.slice bm s'.length cm))
            (first | go_keep | ((try dsimp only); (repeat' apply And.intro) <;> go_keep))
            (first | (go_at_call 11; (with_reducible refine (all_c (hM4.out.below (Below.refl _ _).drew)).mono ?_); rintro e w1 ⟨v, rfl, hv1, hb1⟩; have q1 := ((Below.ofDrew hb1).cell (p := ⟨rb, 1, none⟩) hrl).trans r1; have hv1 := hid hv1; have hb1 := hid (Below.ofDrew hb1)) | (go_at_call 21; (with_reducible refine (same_t hv1.out (im.out.below hb1.out)).mono ?_); rintro e w2 ⟨rfl, hd2⟩; have q2 : w2.cell? ⟨rb, 1, none⟩ = some (.slice bm s'.length cm) := (by obtain ⟨n, rfl⟩ := hd2; exact q1); have hb2 := hid (Below.next hb1.out (hd2.below _) hb1.out.size)))
          go_wp2
          go_meet
          case rel => exact ⟨rfl, hb2.out⟩
        case rest => 
          obtain ⟨rfl, hbc⟩ := hcut
          have hM6 := hid (hM4.out.below hbc)
          have hR6 := hid (hR4.out.below hbc)
          have hB6 := hid (Below.next hB4.out hbc hB4.out.size)
          have r1 := (hbc.cell (p := ⟨rb, 1, none⟩) hrl).trans r1
          have r2 := (hbc.cell (p := ⟨rb, 2, none⟩) hrl).trans r2
          have im := hid (im.out.below hbc)
          have is := hid (is.out.below hbc)
          clear hbc hM4 hR4 hB4
          go_wp2
          go_loopg [19] (s'.length + 2) (fun g i wx => wc = wx ∧ ((g = s'.length + 2 ∧ i = .int .i64 (-1)) ∨ ∃ m : Nat, m ≤ s'.length + 1 ∧ g = s'.length + 1 - m ∧ i = .int .i64 m))
          case atStart => exact ⟨rfl, .inl ⟨rfl, rfl⟩⟩
          case round =>
            obtain ⟨rfl, hrel⟩ := hrel
            have hsz : s'.length ≤ 9223372036854775807 := by omega
            rcases hrel with ⟨hgj, rfl⟩ | ⟨m, hm, hgj, rfl⟩
            · have e1 : modeM s' (-1) = (0, false) := by unfold modeM; rw [at?_out (.inl (by omega))]
              have e2 : startsM s' (-1) = 0 := by unfold startsM; rw [at?_out (.inl (by omega))]
              have e1 := hid e1
              have e2 := hid e2
              have n1 : (-1 : Int) ≤ (s'.length : Int) := by omega
              go_wp2_with (first | (go_at_call 10; (with_reducible refine (mode_c hM6.out (-1)).mono ?_); rw [e1.out]; rintro e w' ⟨rfl, rfl⟩) | (go_at_call 22; (with_reducible refine (starts_c hM6.out (-1)).mono ?_); rw [e2.out]; rintro e w' ⟨rfl, rfl⟩))
              go_roundg (s'.length + 1)
              case rel => exact ⟨rfl, .inr ⟨0, by omega, rfl, rfl⟩⟩
              case measure => omega
            · by_cases hm1 : m < s'.length
              · have e1 : modeM s' m = (s'[m].m, true) := by unfold modeM; rw [at?_in hm1]
                have e2 : startsM s' m = s'[m].s := by unfold startsM; rw [at?_in hm1]
                have e1 := hid e1
                have e2 := hid e2
                obtain ⟨-, -, -, gm⟩ := im.out.get
                obtain ⟨-, -, -, gs⟩ := is.out.get
                obtain ⟨bm1, om, rfl, -, -, cm1⟩ := gm m (by simpa using hm1)
                obtain ⟨bs1, os, rfl, -, -, cs1⟩ := gs m (by simpa using hm1)
                simp only [List.getElem_map] at cm1 cs1
                clear gm gs
                go_wp2_with (first | (go_at_call 10; (with_reducible refine (mode_c hM6.out m).mono ?_); rw [e1.out]; rintro e w' ⟨rfl, rfl⟩) | (go_at_call 22; (with_reducible refine (starts_c hM6.out m).mono ?_); rw [e2.out]; rintro e w' ⟨rfl, rfl⟩))
                go_roundg (s'.length - m)
                case rel => exact ⟨rfl, .inr ⟨m + 1, by omega, by omega, by go_num⟩⟩
                case measure => omega
              · by_cases hm2 : m = s'.length
                · subst hm2
                  have e1 : modeM s' (s'.length : Int) = (0, false) := by unfold modeM; rw [at?_out (.inr (by omega))]
                  have e2 : startsM s' (s'.length : Int) = 0 := by unfold startsM; rw [at?_out (.inr (by omega))]
                  have e1 := hid e1
                  have e2 := hid e2
                  go_wp2_with (first | (go_at_call 10; (with_reducible refine (mode_c hM6.out _).mono ?_); rw [e1.out]; rintro e w' ⟨rfl, rfl⟩) | (go_at_call 22; (with_reducible refine (starts_c hM6.out _).mono ?_); rw [e2.out]; rintro e w' ⟨rfl, rfl⟩))
                  go_roundg 0
                  case rel => exact ⟨rfl, .inr ⟨s'.length + 1, by omega, by omega, by go_num⟩⟩
                  case measure => omega
                · have n1 : ¬ (m : Int) ≤ (s'.length : Int) := by omega
                  have n2 : ¬ m ≤ s'.length := by omega
                  go_wp2
                  go_roundg (ys.length - (k + 1))
                  case rel => exact ⟨k + 1, s', _, _, _, by omega, rfl, by go_num, hM6.out, hR6.out, hB6.out⟩
                  case measure => omega
    · obtain rfl : k = ys.length := by omega
      go_wp2
      go_ret
      exact ⟨rfl, hB⟩
end Go.Proofs.Ytfnhjendplgidaa.Lw
