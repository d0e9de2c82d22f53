/- DERIVED. A walk over the reference's making of a config of one queuing channel, and law12's good. No statement is proved here. -/
import Derived.Test.YtggfallodkbgcaaCfgW
import Derived.Test.YtggfallodkbgcaaK2
namespace Go.Proofs.Ytggfallodkbgcaa.Cf
set_option linter.unusedVariables false
set_option linter.unusedSimpArgs false
open Go.RowKit Go.Proofs.Ytggfallodkbgcaa.K Go.Proofs.Ytggfallodkbgcaa.Lb
def GoodPost (w : World) (k : Chan) (e : Ending) (w' : World) : Prop := ∃ f aw nw cw g c aa na ca ex, e = .returned (.agg #[.int .i64 2, .int .i64 f, .slice aw nw cw, .slice (some ⟨g, 0, none⟩) 1 c, .slice aa na ca]) ∧ pts w' g (encC (goodChan 2 k) ++ ex) 23 ∧ Below w.heap.size w w'
theorem elChan : ElemOk Try.prog 57 23 11 88 := .mk' (z := .agg #[.int .i64 0, .int .i64 0, .int .i64 0, .int .i64 0, .int .i64 0, .int .i64 0, .int .i64 0, .int .i64 0, .int .i64 0, .int .i64 0, .int .i64 0]) Try.underlying57 (by kernel_rfl) rfl (by decide)
/-- What stands while a config is made. -/
structure GS (w wr : World) (cb : Nat) (k : Chan) (vals : List Value) : Prop where
  c1 : pts wr w.heap.size [.int .i64 1, .int .i64 0, .slice none 0 0, .slice (some ⟨cb, 0, none⟩) 1 1, .slice none 0 0] 59
  r : pts wr (w.heap.size + 1) [.int .i64 0, .int .i64 0, .slice none 0 0, .slice none 0 0, .slice none 0 0] 59
  o : pts wr (w.heap.size + 1 + 1) vals 59
  k : pts wr cb (encC k) 23
  b : Below w.heap.size w wr
  lt : cb < w.heap.size
section
variable {w wr wr' : World} {cb : Nat} {k : Chan} {vals : List Value}
theorem GS.s (h : GS w wr cb k vals) : w.heap.size + 3 ≤ wr.heap.size := by have := h.o.lt; omega
theorem GS.of (h : GS w wr cb k vals) (hb : Below w.heap.size w wr') (he : ∀ b, b < wr.heap.size → b < w.heap.size + 3 → wr'.heap[b]? = wr.heap[b]?) : GS w wr' cb k vals :=
  have hs := h.s
  have hl := h.lt
  ⟨h.c1.of (he _ (by omega) (by omega)), h.r.of (he _ (by omega) (by omega)), h.o.of (he _ (by omega) (by omega)), h.k.of (he _ (by omega) (by omega)), hb, hl⟩
theorem GS.alloc (h : GS w wr cb k vals) (o : Obj) : GS w (wr.alloc o) cb k vals :=
  h.of (h.b.alloc (by have := h.s; omega) o) (fun b hb _ => Below.heap_alloc _ _ _ hb)
theorem GS.next (h : GS w wr cb k vals) (hb : Below wr.heap.size wr wr') : GS w wr' cb k vals :=
  h.of (Below.next h.b hb (by have := h.s; omega)) (fun b hlt _ => hb.block b hlt)
theorem GS.set (h : GS w wr cb k vals) (i : Nat) (v : Value) : GS w (wr.setCell ⟨w.heap.size + 1 + 1, i, none⟩ v) cb k (vals.set i v) :=
  have hl := h.lt
  ⟨h.c1.set_ne (by simp; omega) _, h.r.set_ne (by simp) _, h.o.set i v, h.k.set_ne (by simp; omega) _, h.b.setCell (by simp; omega) _, hl⟩
theorem GS.grown (h : GS w wr cb k vals) {base : Nat} {e : TypeId} {size n : Nat} {v : Value} {xs : List Value} (hg : wr.grownBy wr' v.ownBlock) (ho : wr.ownsRow base e size v n xs) (hb : w.heap.size + 3 ≤ base) (hB : Below w.heap.size w wr') : GS w wr' cb k vals :=
  h.of hB (fun b hlt h3 => hg.block b hlt (fun e => by have := (ho.lt _ e.symm).1; omega))
end
theorem GS.start (w : World) {cb : Nat} {k : Chan} (hc : pts w cb (encC k) 23) : GS w (((w.alloc (.cells #[.int .i64 1, .int .i64 0, .slice none 0 0, .slice (some ⟨cb, 0, none⟩) 1 1, .slice none 0 0] 59)).alloc (.cells #[.int .i64 0, .int .i64 0, .slice none 0 0, .slice none 0 0, .slice none 0 0] 59)).alloc (.cells #[.int .i64 2, .int .i64 0, .slice none 0 0, .slice none 0 0, .slice none 0 0] 59)) cb k [.int .i64 2, .int .i64 0, .slice none 0 0, .slice none 0 0, .slice none 0 0] := by
  refine ⟨?_, ?_, ?_, ?_, ?_, hc.lt⟩
  · exact ((pts.newA w _ _).alloc _).alloc _
  · have := (pts.newA (w.alloc (.cells #[.int .i64 1, .int .i64 0, .slice none 0 0, .slice (some ⟨cb, 0, none⟩) 1 1, .slice none 0 0] 59)) #[.int .i64 0, .int .i64 0, .slice none 0 0, .slice none 0 0, .slice none 0 0] 59).alloc (.cells #[.int .i64 2, .int .i64 0, .slice none 0 0, .slice none 0 0, .slice none 0 0] 59)
    simpa using this
  · have := pts.newA ((w.alloc (.cells #[.int .i64 1, .int .i64 0, .slice none 0 0, .slice (some ⟨cb, 0, none⟩) 1 1, .slice none 0 0] 59)).alloc (.cells #[.int .i64 0, .int .i64 0, .slice none 0 0, .slice none 0 0, .slice none 0 0] 59)) #[.int .i64 2, .int .i64 0, .slice none 0 0, .slice none 0 0, .slice none 0 0] 59
    simpa using this
  · exact ((hc.alloc _).alloc _).alloc _
  · exact (((Below.refl w.heap.size w).alloc (Nat.le_refl _) _).alloc (by simp) _).alloc (by simp; omega) _
set_option maxHeartbeats 4000000 in
set_option maxRecDepth 100000 in
theorem good1_c (w : World) (k : Chan) (hk : nearT k.kind 0 2 ≠ 0) {cb : Nat} (hc : pts w cb (encC k) 23) : Calls Try.prog 23 #[.agg #[.int .i64 1, .int .i64 0, .slice none 0 0, .slice (some ⟨cb, 0, none⟩) 1 1, .slice none 0 0]] w (GoodPost w k) := by
  have hS := hid (GS.start w hc)
  have n1 : nearT 1 1 4 = 2 := by decide
  have n2 : nearT 0 0 3 = 0 := by decide
  replace n1 := hid n1
  replace n2 := hid n2
  obtain ⟨kg, hkg⟩ : ∃ kg, kg = goodChan 2 k := ⟨_, rfl⟩
  replace hkg := hid hkg
  replace hk := hid hk
  clear hc
  go_enter Try.func23, Try.ntmps23
  go_wp2_with (first | (go_at_call 46; (with_reducible refine (near_c _ 1 1 4 (by omega) (by omega) (by omega) (by omega)).mono ?_); rw [n1.out]; rintro e w' ⟨rfl, rfl⟩))
  go_loopg [5, 4, 6] 0 (fun g i e x wr => g = 0 ∧ i = .int .i64 0 ∧ e = .int .i64 0 ∧ GS w wr cb k [.int .i64 2, .int .i64 0, .slice none 0 0, .slice none 0 0, .slice none 0 0])
  case atStart => exact ⟨rfl, rfl, rfl, hS.out⟩
  case round =>
    obtain ⟨rfl, rfl, rfl, hG⟩ := hrel
    have o0 := (hG).o.cell 0
    have o1 := (hG).o.cell 1
    have o2 := (hG).o.cell 2
    have o3 := (hG).o.cell 3
    have o4 := (hG).o.cell 4
    have ol := (hG).o.lt
    have of := fun o => (hG).o.frozen o
    have q0 := (hG).c1.cell 0
    have q1 := (hG).c1.cell 1
    have q2 := (hG).c1.cell 2
    have q3 := (hG).c1.cell 3
    have q4 := (hG).c1.cell 4
    have ql := (hG).c1.lt
    simp only [List.getElem?_cons_zero, List.getElem?_cons_succ, List.set_cons_zero, List.set_cons_succ] at o0 o1 o2 o3 o4 q0 q1 q2 q3 q4
    have hGa := hid (((hG.set 2 (.slice (some ⟨wr.heap.size, 0, none⟩) 1 1)).set 1 (.int .i64 2)).alloc (.cells #[.int .i64 0, .int .i64 0, .int .i64 2] 87))
    clear hG
    go_wp2_with (first | (go_at_call 46; (with_reducible refine (near_c _ 0 0 3 (by omega) (by omega) (by omega) (by omega)).mono ?_); rw [n2.out]; rintro e w' ⟨rfl, rfl⟩))
    replace hGa := hGa.out
    simp only [List.set_cons_zero, List.set_cons_succ] at hGa
    generalize ((wr.setCell ⟨w.heap.size + 1 + 1, 2, none⟩ (.slice (some ⟨wr.heap.size, 0, none⟩) 1 1)).setCell ⟨w.heap.size + 1 + 1, 1, none⟩ (.int .i64 2)).alloc (.cells #[.int .i64 0, .int .i64 0, .int .i64 2] 87) = W2 at hGa ⊢
    generalize hwb : wr.heap.size = wb at hGa ⊢
    clear hwb o0 o1 o2 o3 o4 ol of q0 q1 q2 q3 q4 ql
    replace hGa := hid hGa
    go_loopg [7] 1 (fun g i wr2 => (g = 1 ∧ i = .int .i64 0 ∧ GS w wr2 cb k [.int .i64 2, .int .i64 2, .slice (some ⟨wb, 0, none⟩) 1 1, .slice none 0 0, .slice none 0 0]) ∨ (g = 0 ∧ i = .int .i64 1 ∧ ∃ b c ex, GS w wr2 cb k [.int .i64 2, .int .i64 2, .slice (some ⟨wb, 0, none⟩) 1 1, .slice (some ⟨b, 0, none⟩) 1 c, .slice none 0 0] ∧ pts wr2 b (encC kg ++ ex) 23 ∧ w.heap.size + 3 ≤ b))
    case atStart => exact .inl ⟨rfl, rfl, hGa.out⟩
    case round =>
      clear hGa
      rcases hrel with ⟨rfl, rfl, hG⟩ | ⟨rfl, rfl, b, c, ex, hG, hpb, hb3⟩
      · skip
        have o0 := (hG).o.cell 0
        have o1 := (hG).o.cell 1
        have o2 := (hG).o.cell 2
        have o3 := (hG).o.cell 3
        have o4 := (hG).o.cell 4
        have ol := (hG).o.lt
        have of := fun o => (hG).o.frozen o
        have q0 := (hG).c1.cell 0
        have q1 := (hG).c1.cell 1
        have q2 := (hG).c1.cell 2
        have q3 := (hG).c1.cell 3
        have q4 := (hG).c1.cell 4
        have ql := (hG).c1.lt
        simp only [List.getElem?_cons_zero, List.getElem?_cons_succ, List.set_cons_zero, List.set_cons_succ] at o0 o1 o2 o3 o4 q0 q1 q2 q3 q4
        have hG2 := hid hG
        clear hG
        go_upto_region 16 with fail
        clear o0 o1 o2 o3 o4 ol of q0 q1 q2 q3 q4 ql
        -- REG empennage/empennageref04.Good|16|Good.16
        refine region_tab 11 [Sp.eq (.pointer (some ⟨w.heap.size + 1 + 1, 3, none⟩)), Sp.eq (.slice none 0 0), Sp.eq (.pointer (some ⟨w.heap.size, 3, none⟩)), Sp.eq (.slice (some ⟨cb, 0, none⟩) 1 1), Sp.eq (.int .i64 0), Sp.eq (.pointer (some ⟨cb, 0, none⟩)), Sp.eq (.agg #[.int .i64 k.kind, .int .i64 k.frm, .int .i64 k.to, .int .i64 k.words, .int .i64 k.refresh, .int .i64 k.lanes, .int .i64 k.depth, .int .i64 k.hold, .int .i64 k.life, .int .i64 k.rate, .int .i64 k.cap]), Sp.eq (.pointer (some ⟨w.heap.size + 1 + 1, 0, none⟩)), Sp.eq (.int .i64 2), Sp.eq (.agg #[.int .i64 kg.kind, .int .i64 kg.frm, .int .i64 kg.to, .int .i64 kg.words, .int .i64 kg.refresh, .int .i64 kg.lanes, .int .i64 kg.depth, .int .i64 kg.hold, .int .i64 kg.life, .int .i64 kg.rate, .int .i64 kg.cap]), Sp.of (fun v u => ∃ b, v = .slice (some ⟨b, 0, none⟩) 1 1 ∧ pts u b (encC kg) 23) (fun v w w' h hb => (show ∃ b, _ from h.imp (fun b h2 => ⟨h2.1, h2.2.below hb⟩)))] (fun _ _ _ _ _ h => h) (by kernel_rfl) (by kernel_rfl) ⟨?_, ?_, ?_, ?_, ?_, ?_, ?_, ?_, ?_, ?_, ?_, trivial⟩ ?_
        · intro ac gs u hb hg h
          have e3 : ac.tmps[3]?.getD undef = .pointer (some ⟨w.heap.size + 1 + 1, 0, none⟩) := h.inm 3 rfl rfl
          refine opFree rfl ?_
          exact relRun (v := .pointer (some ⟨w.heap.size + 1 + 1, 3, none⟩)) (w' := u) (by simp [go_sem, e3]) (okP hg rfl)
        · intro ac gs u hb hg h
          have e92 : ac.tmps[92]?.getD undef = .pointer (some ⟨w.heap.size + 1 + 1, 3, none⟩) := h.tm 0 92 rfl rfl
          refine opFree rfl ?_
          exact relRun (v := .slice none 0 0) (w' := u) (by simp [go_sem, e92, ((hG2.out.o.below hb).cell 3)]) (okP hg rfl)
        · intro ac gs u hb hg h
          have e1 : ac.tmps[1]?.getD undef = .pointer (some ⟨w.heap.size, 0, none⟩) := h.inm 1 rfl rfl
          refine opFree rfl ?_
          exact relRun (v := .pointer (some ⟨w.heap.size, 3, none⟩)) (w' := u) (by simp [go_sem, e1]) (okP hg rfl)
        · intro ac gs u hb hg h
          have e94 : ac.tmps[94]?.getD undef = .pointer (some ⟨w.heap.size, 3, none⟩) := h.tm 2 94 rfl rfl
          refine opFree rfl ?_
          exact relRun (v := .slice (some ⟨cb, 0, none⟩) 1 1) (w' := u) (by simp [go_sem, e94, ((hG2.out.c1.below hb).cell 3)]) (okP hg rfl)
        · intro ac gs u hb hg h
          have e7 : ac.tmps[7]?.getD undef = .int .i64 0 := h.inm 7 rfl rfl
          refine opFree rfl ?_
          exact relMoveT _ rfl e7 (okP hg rfl)
        · intro ac gs u hb hg h
          have e95 : ac.tmps[95]?.getD undef = .slice (some ⟨cb, 0, none⟩) 1 1 := h.tm 3 95 rfl rfl
          have e96 : ac.tmps[96]?.getD undef = .int .i64 0 := h.tm 4 96 rfl rfl
          refine opFree rfl ?_
          exact relRun (v := .pointer (some ⟨cb, 0, none⟩)) (w' := u) (by simp [go_sem, e95, e96]) (okP hg rfl)
        · intro ac gs u hb hg h
          have e97 : ac.tmps[97]?.getD undef = .pointer (some ⟨cb, 0, none⟩) := h.tm 5 97 rfl rfl
          refine opFree rfl ?_
          exact relRun (v := .agg #[.int .i64 k.kind, .int .i64 k.frm, .int .i64 k.to, .int .i64 k.words, .int .i64 k.refresh, .int .i64 k.lanes, .int .i64 k.depth, .int .i64 k.hold, .int .i64 k.life, .int .i64 k.rate, .int .i64 k.cap]) (w' := u) (by simp [go_sem, e97, ((hG2.out.k.below hb).cell 0), ((hG2.out.k.below hb).cell 1), ((hG2.out.k.below hb).cell 2), ((hG2.out.k.below hb).cell 3), ((hG2.out.k.below hb).cell 4), ((hG2.out.k.below hb).cell 5), ((hG2.out.k.below hb).cell 6), ((hG2.out.k.below hb).cell 7), ((hG2.out.k.below hb).cell 8), ((hG2.out.k.below hb).cell 9), ((hG2.out.k.below hb).cell 10), encC]) (okP hg rfl)
        · intro ac gs u hb hg h
          have e3 : ac.tmps[3]?.getD undef = .pointer (some ⟨w.heap.size + 1 + 1, 0, none⟩) := h.inm 3 rfl rfl
          refine opFree rfl ?_
          exact relRun (v := .pointer (some ⟨w.heap.size + 1 + 1, 0, none⟩)) (w' := u) (by simp [go_sem, e3]) (okP hg rfl)
        · intro ac gs u hb hg h
          have e99 : ac.tmps[99]?.getD undef = .pointer (some ⟨w.heap.size + 1 + 1, 0, none⟩) := h.tm 7 99 rfl rfl
          refine opFree rfl ?_
          exact relRun (v := .int .i64 2) (w' := u) (by simp [go_sem, e99, ((hG2.out.o.below hb).cell 0)]) (okP hg rfl)
        · intro ac gs u hb hg h
          have e98 : ac.tmps[98]?.getD undef = .agg #[.int .i64 k.kind, .int .i64 k.frm, .int .i64 k.to, .int .i64 k.words, .int .i64 k.refresh, .int .i64 k.lanes, .int .i64 k.depth, .int .i64 k.hold, .int .i64 k.life, .int .i64 k.rate, .int .i64 k.cap] := h.tm 6 98 rfl rfl
          have e100 : ac.tmps[100]?.getD undef = .int .i64 2 := h.tm 8 100 rfl rfl
          refine opFree rfl ?_
          refine relCall (f := _) (args := #[.agg #[.int .i64 k.kind, .int .i64 k.frm, .int .i64 k.to, .int .i64 k.words, .int .i64 k.refresh, .int .i64 k.lanes, .int .i64 k.depth, .int .i64 k.hold, .int .i64 k.life, .int .i64 k.rate, .int .i64 k.cap], .int .i64 2]) (by simp [go_sem, e98, e100]; rfl) ?_
          refine (channel_c u k (P := 2) (by omega) hk.out).mono ?_
          rintro e w' ⟨rfl, hb'⟩
          exact ⟨_, rfl, okB hg hb' (by rw [hkg.out]; rfl)⟩
        · intro ac gs u hb hg h
          have e101 : ac.tmps[101]?.getD undef = .agg #[.int .i64 kg.kind, .int .i64 kg.frm, .int .i64 kg.to, .int .i64 kg.words, .int .i64 kg.refresh, .int .i64 kg.lanes, .int .i64 kg.depth, .int .i64 kg.hold, .int .i64 kg.life, .int .i64 kg.rate, .int .i64 kg.cap] := h.tm 9 101 rfl rfl
          refine opFree rfl ?_
          exact relRun (v := .slice (some ⟨u.heap.size, 0, none⟩) 1 1) (w' := u.alloc (.cells #[.int .i64 kg.kind, .int .i64 kg.frm, .int .i64 kg.to, .int .i64 kg.words, .int .i64 kg.refresh, .int .i64 kg.lanes, .int .i64 kg.depth, .int .i64 kg.hold, .int .i64 kg.life, .int .i64 kg.rate, .int .i64 kg.cap] 23)) (by simp [go_sem, e101]) (okA _ hg ⟨_, rfl, pts.newA u _ _⟩)
        intro vs gs u hb hg hr
        have r0 : vs 0 = .pointer (some ⟨w.heap.size + 1 + 1, 3, none⟩) := hr 0 (by decide)
        have r1 : vs 1 = .slice none 0 0 := hr 1 (by decide)
        have r2 : vs 2 = .pointer (some ⟨w.heap.size, 3, none⟩) := hr 2 (by decide)
        have r3 : vs 3 = .slice (some ⟨cb, 0, none⟩) 1 1 := hr 3 (by decide)
        have r4 : vs 4 = .int .i64 0 := hr 4 (by decide)
        have r5 : vs 5 = .pointer (some ⟨cb, 0, none⟩) := hr 5 (by decide)
        have r6 : vs 6 = .agg #[.int .i64 k.kind, .int .i64 k.frm, .int .i64 k.to, .int .i64 k.words, .int .i64 k.refresh, .int .i64 k.lanes, .int .i64 k.depth, .int .i64 k.hold, .int .i64 k.life, .int .i64 k.rate, .int .i64 k.cap] := hr 6 (by decide)
        have r7 : vs 7 = .pointer (some ⟨w.heap.size + 1 + 1, 0, none⟩) := hr 7 (by decide)
        have r8 : vs 8 = .int .i64 2 := hr 8 (by decide)
        have r9 : vs 9 = .agg #[.int .i64 kg.kind, .int .i64 kg.frm, .int .i64 kg.to, .int .i64 kg.words, .int .i64 kg.refresh, .int .i64 kg.lanes, .int .i64 kg.depth, .int .i64 kg.hold, .int .i64 kg.life, .int .i64 kg.rate, .int .i64 kg.cap] := hr 9 (by decide)
        have r10 := hr 10 (by decide)
        obtain ⟨b10, e102, hp10⟩ := r10
        simp only [List.take_succ_cons, List.take_zero, List.drop_succ_cons, List.drop_zero, putOps, r0, r1, r2, r3, r4, r5, r6, r7, r8, r9, e102]
        simp only [Act.put, List.setIfInBounds_toArray, List.set_cons_succ, List.set_cons_zero]
        clear hr r0 r1 r2 r3 r4 r5 r6 r7 r8 r9 e102
        -- GER
        have hGu := hid (hG2.out.next hb)
        have hsu := hid (show w.heap.size + 3 ≤ u.heap.size from Nat.le_trans hG2.out.s hb.size)
        clear hb hg hG2
        have hp10 := hid hp10
        go_wp2_with (at_builtin; (refine wpList_push rfl (.tmp 93) (.tmp 102) 57 rfl elChan (v := .slice none 0 0) rfl (World.ownsRow_nil u u.heap.size 23 11) hGu.out.b (by have := hsu.out; omega) (Nat.le_refl _) (news := encC kg) rfl rfl hp10.out (by simp [encC, Value.oneCell']) (by unfold maxLen; omega) (by omega) ?_; intro v' w1 hown1 hb1 hg1 _; obtain ⟨g', cap', ex', rfl, hgl, hpg, _⟩ := own_split hown1 (by omega); have hG1 := hGu.out.grown hg1 (World.ownsRow_nil u u.heap.size 23 11) hsu.out hb1; have o3 := hG1.o.cell 3; have of := fun o => hG1.o.frozen o; have ol := hG1.o.lt; simp only [List.getElem?_cons_zero, List.getElem?_cons_succ] at o3))
        go_roundg 0
        case rel => exact .inr ⟨rfl, by go_num, g', cap', ex', hG1.set 3 _, by simpa using hpg.set_ne (by have := hsu.out; simp; omega) _, by have := hsu.out; omega⟩
        case measure => omega
      · skip
        have o0 := (hG).o.cell 0
        have o1 := (hG).o.cell 1
        have o2 := (hG).o.cell 2
        have o3 := (hG).o.cell 3
        have o4 := (hG).o.cell 4
        have ol := (hG).o.lt
        have of := fun o => (hG).o.frozen o
        have q0 := (hG).c1.cell 0
        have q1 := (hG).c1.cell 1
        have q2 := (hG).c1.cell 2
        have q3 := (hG).c1.cell 3
        have q4 := (hG).c1.cell 4
        have ql := (hG).c1.lt
        simp only [List.getElem?_cons_zero, List.getElem?_cons_succ, List.set_cons_zero, List.set_cons_succ] at o0 o1 o2 o3 o4 q0 q1 q2 q3 q4
        have hGb := hid hG
        have hpb' := hid hpb
        obtain ⟨B3, hB3⟩ : ∃ B3, B3 = wr.heap.size := ⟨_, rfl⟩
        have hbB := hid (show b < B3 from by have := hpb.lt; omega)
        have hsB := hid (show w.heap.size + 3 ≤ B3 from by have := hG.s; omega)
        have hBr := hid (show B3 ≤ wr.heap.size from by omega)
        clear hG hpb hB3
        go_wp2
        go_loopg [8, 9] 2 (fun g i n w3 => ∃ (j : Nat) (va : Value), j ≤ 2 ∧ g = 2 - j ∧ i = .int .i64 j ∧ GS w w3 cb k [.int .i64 2, .int .i64 2, .slice (some ⟨wb, 0, none⟩) 1 1, .slice (some ⟨b, 0, none⟩) 1 c, va] ∧ pts w3 b (encC kg ++ ex) 23 ∧ w3.ownsRow B3 3 1 va j (List.replicate j (.int .i64 0)) ∧ B3 ≤ w3.heap.size)
        case atStart => exact ⟨0, _, by omega, rfl, rfl, hGb.out, hpb'.out, World.ownsRow_nil _ _ _ _, hBr.out⟩
        case round =>
          clear o0 o1 o2 o3 o4 ol of q0 q1 q2 q3 q4 ql hGb hpb' hBr
          obtain ⟨j, va, hj, hgj, rfl, hG, hpb, hown, hB⟩ := hrel
          obtain ⟨aa, ca, rfl⟩ := own_shape hown
          have o0 := (hG).o.cell 0
          have o1 := (hG).o.cell 1
          have o2 := (hG).o.cell 2
          have o3 := (hG).o.cell 3
          have o4 := (hG).o.cell 4
          have ol := (hG).o.lt
          have of := fun o => (hG).o.frozen o
          have q0 := (hG).c1.cell 0
          have q1 := (hG).c1.cell 1
          have q2 := (hG).c1.cell 2
          have q3 := (hG).c1.cell 3
          have q4 := (hG).c1.cell 4
          have ql := (hG).c1.lt
          simp only [List.getElem?_cons_zero, List.getElem?_cons_succ, List.set_cons_zero, List.set_cons_succ] at o0 o1 o2 o3 o4 q0 q1 q2 q3 q4
          by_cases hj2 : j < 2
          · have d0 : decide ((j : Int) < 0) = false := decide_eq_false (by omega)
            have d2 : decide ((j : Int) < 2) = true := by simp; omega
            have hGA := hid (hG.alloc (.cells #[.int .i64 0] 3))
            have hoA := hid (hown.alloc (.cells #[.int .i64 0] 3))
            have hpA := hid (hpb.alloc (.cells #[.int .i64 0] 3))
            have hB' := hid hB
            clear hG hpb hown hB
            go_wp2_with (at_builtin; (refine wpList_push rfl (.tmp 123) (.tmp 125) 35 rfl elInt rfl hoA.out hGA.out.b (by have := hsB.out; omega) (by have := hB'.out; simp; omega) (news := [.int .i64 0]) rfl rfl (heap_at _ _ _ (by simp)) (by simp [Value.oneCell']) (by unfold maxLen; omega) (by omega) ?_; intro v' w1 hown1 hb1 hg1 _; have hG1 := hGA.out.grown hg1 hoA.out hsB.out hb1; have hp1 := hpA.out.grown hg1 hoA.out hbB.out; obtain ⟨g', cap', ex', rfl, hgl, hpg, _⟩ := own_split hown1 (by omega); have o3 := hG1.o.cell 4; have of := fun o => hG1.o.frozen o; have ol := hG1.o.lt; simp only [List.getElem?_cons_zero, List.getElem?_cons_succ] at o3))
            go_roundg (2 - (j + 1))
            case rel => exact ⟨j + 1, _, by omega, rfl, by go_num, hG1.set 4 _, hp1.set_ne (by have := hsB.out; simp; omega) _, by rw [show List.replicate (j + 1) (Value.int .i64 0) = List.replicate j (Value.int .i64 0) ++ [.int .i64 0] from List.replicate_succ']; exact ownsRow_setCell_below hown1 (by have := hsB.out; simp; omega) _, by have := hB'.out; have := hg1.size; simp at *; omega⟩
            case measure => omega
          · have d2 : decide ((j : Int) < 2) = false := by simp; omega
            have r0 := hG.r.cell 0
            have r1 := hG.r.cell 1
            have r2 := hG.r.cell 2
            have r3 := hG.r.cell 3
            have r4 := hG.r.cell 4
            have rl := hG.r.lt
            have rf := fun o => hG.r.frozen o
            simp only [List.getElem?_cons_zero, List.getElem?_cons_succ] at r0 r1 r2 r3 r4
            have hG' := hid hG
            have hp' := hid hpb
            have hne := hid (show b ≠ w.heap.size + 1 from by omega)
            clear hG hpb hown
            go_wp2
            refine bodyPost_ret (v := .agg #[.int .i64 2, .int .i64 2, .slice (some ⟨wb, 0, none⟩) 1 1, .slice (some ⟨b, 0, none⟩) 1 c, .slice aa j ca]) (by simp [results, Try.results23, go_sem, r0, r1, r2, r3, r4, rl]) rfl ⟨2, some ⟨wb, 0, none⟩, 1, 1, b, c, aa, j, ca, ex, rfl, ?_, ?_⟩
            · rw [← hkg.out]
              exact ((((hp'.out.set_ne hne.out _).set_ne hne.out _).set_ne hne.out _).set_ne hne.out _).set_ne hne.out _
            · have hw1 : w.heap.size ≤ w.heap.size + 1 := by omega
              exact ((((hG'.out.b.setCell hw1 _).setCell hw1 _).setCell hw1 _).setCell hw1 _).setCell hw1 _
def goodK (k : Chan) : Chan := goodChan 2 { k with kind := 1 }
set_option maxHeartbeats 4000000 in
set_option maxRecDepth 100000 in
theorem good_c (w : World) (k : Chan) : Calls Try.prog 8 #[aggC k] w fun e w' => e = .returned (aggC (goodK k)) ∧ Below w.heap.size w w' := by
  have hk1 : nearT ({ k with kind := 1 } : Chan).kind 0 2 ≠ 0 := by show nearT 1 0 2 ≠ 0; decide
  have hb1 := (((Below.refl w.heap.size w).alloc (Nat.le_refl _) (.cells #[.int .i64 1, .int .i64 k.frm, .int .i64 k.to, .int .i64 k.words, .int .i64 k.refresh, .int .i64 k.lanes, .int .i64 k.depth, .int .i64 k.hold, .int .i64 k.life, .int .i64 k.rate, .int .i64 k.cap] 23)).alloc (by simp) (.cells #[.int .i64 0, .int .i64 0, .int .i64 0, .int .i64 0, .int .i64 0, .int .i64 0, .int .i64 0, .int .i64 0, .int .i64 0, .int .i64 0, .int .i64 0] 23)).alloc (by simp; omega) (.cells #[.int .i64 1, .int .i64 k.frm, .int .i64 k.to, .int .i64 k.words, .int .i64 k.refresh, .int .i64 k.lanes, .int .i64 k.depth, .int .i64 k.hold, .int .i64 k.life, .int .i64 k.rate, .int .i64 k.cap] 23)
  have hr := (pts.newA (w.alloc (.cells #[.int .i64 1, .int .i64 k.frm, .int .i64 k.to, .int .i64 k.words, .int .i64 k.refresh, .int .i64 k.lanes, .int .i64 k.depth, .int .i64 k.hold, .int .i64 k.life, .int .i64 k.rate, .int .i64 k.cap] 23)) #[.int .i64 0, .int .i64 0, .int .i64 0, .int .i64 0, .int .i64 0, .int .i64 0, .int .i64 0, .int .i64 0, .int .i64 0, .int .i64 0, .int .i64 0] 23).alloc (.cells #[.int .i64 1, .int .i64 k.frm, .int .i64 k.to, .int .i64 k.words, .int .i64 k.refresh, .int .i64 k.lanes, .int .i64 k.depth, .int .i64 k.hold, .int .i64 k.life, .int .i64 k.rate, .int .i64 k.cap] 23)
  have hc := pts.newA ((w.alloc (.cells #[.int .i64 1, .int .i64 k.frm, .int .i64 k.to, .int .i64 k.words, .int .i64 k.refresh, .int .i64 k.lanes, .int .i64 k.depth, .int .i64 k.hold, .int .i64 k.life, .int .i64 k.rate, .int .i64 k.cap] 23)).alloc (.cells #[.int .i64 0, .int .i64 0, .int .i64 0, .int .i64 0, .int .i64 0, .int .i64 0, .int .i64 0, .int .i64 0, .int .i64 0, .int .i64 0, .int .i64 0] 23)) #[.int .i64 1, .int .i64 k.frm, .int .i64 k.to, .int .i64 k.words, .int .i64 k.refresh, .int .i64 k.lanes, .int .i64 k.depth, .int .i64 k.hold, .int .i64 k.life, .int .i64 k.rate, .int .i64 k.cap] 23
  have hgd := hid (good1_c (((w.alloc (.cells #[.int .i64 1, .int .i64 k.frm, .int .i64 k.to, .int .i64 k.words, .int .i64 k.refresh, .int .i64 k.lanes, .int .i64 k.depth, .int .i64 k.hold, .int .i64 k.life, .int .i64 k.rate, .int .i64 k.cap] 23)).alloc (.cells #[.int .i64 0, .int .i64 0, .int .i64 0, .int .i64 0, .int .i64 0, .int .i64 0, .int .i64 0, .int .i64 0, .int .i64 0, .int .i64 0, .int .i64 0] 23)).alloc (.cells #[.int .i64 1, .int .i64 k.frm, .int .i64 k.to, .int .i64 k.words, .int .i64 k.refresh, .int .i64 k.lanes, .int .i64 k.depth, .int .i64 k.hold, .int .i64 k.life, .int .i64 k.rate, .int .i64 k.cap] 23)) { k with kind := 1 } hk1 (cb := w.heap.size + 1 + 1) (by simpa [encC] using hc))
  have hr : Hid (pts (((w.alloc (.cells #[.int .i64 1, .int .i64 k.frm, .int .i64 k.to, .int .i64 k.words, .int .i64 k.refresh, .int .i64 k.lanes, .int .i64 k.depth, .int .i64 k.hold, .int .i64 k.life, .int .i64 k.rate, .int .i64 k.cap] 23)).alloc (.cells #[.int .i64 0, .int .i64 0, .int .i64 0, .int .i64 0, .int .i64 0, .int .i64 0, .int .i64 0, .int .i64 0, .int .i64 0, .int .i64 0, .int .i64 0] 23)).alloc (.cells #[.int .i64 1, .int .i64 k.frm, .int .i64 k.to, .int .i64 k.words, .int .i64 k.refresh, .int .i64 k.lanes, .int .i64 k.depth, .int .i64 k.hold, .int .i64 k.life, .int .i64 k.rate, .int .i64 k.cap] 23)) (w.heap.size + 1) [.int .i64 0, .int .i64 0, .int .i64 0, .int .i64 0, .int .i64 0, .int .i64 0, .int .i64 0, .int .i64 0, .int .i64 0, .int .i64 0, .int .i64 0] 23) := hid (by simpa using hr)
  replace hb1 := hid hb1
  clear hk1 hc
  unfold GoodPost at hgd
  obtain ⟨kg, hkg⟩ : ∃ kg, kg = goodK k := ⟨_, rfl⟩
  have hkg2 : goodChan 2 { k with kind := 1 } = kg := hkg.symm
  rw [hkg2] at hgd
  replace hkg := hid hkg
  clear hkg2
  unfold aggC
  go_enter Try.func8, Try.ntmps8
  go_wp2_with (first | (go_at_call 23; (with_reducible refine (hgd.out).mono ?_); rintro e w1 ⟨f, aw, nw, cw, g, c, aa, na, ca, ex, rfl, hp, hb⟩; have hbx := hb.alloc hb.size (.cells #[.int .i64 2, .int .i64 f, .slice aw nw cw, .slice (some ⟨g, 0, none⟩) 1 c, .slice aa na ca] 59); have hp2 := hp.alloc (.cells #[.int .i64 2, .int .i64 f, .slice aw nw cw, .slice (some ⟨g, 0, none⟩) 1 c, .slice aa na ca] 59); have hr2 := hr.out.below hbx; have hB2 := hid (Below.next hb1.out hbx (by simp; omega)); have hg1 := hp.lt; have n0 := (hp2).cell 0; have n1 := (hp2).cell 1; have n2 := (hp2).cell 2; have n3 := (hp2).cell 3; have n4 := (hp2).cell 4; have n5 := (hp2).cell 5; have n6 := (hp2).cell 6; have n7 := (hp2).cell 7; have n8 := (hp2).cell 8; have n9 := (hp2).cell 9; have n10 := (hp2).cell 10; have nl := (hp2).lt; have nf := fun o => (hp2).frozen o; simp only [encC, List.cons_append, List.getElem?_cons_zero, List.getElem?_cons_succ] at n0 n1 n2 n3 n4 n5 n6 n7 n8 n9 n10; have y0 := (hr2).cell 0; have y1 := (hr2).cell 1; have y2 := (hr2).cell 2; have y3 := (hr2).cell 3; have y4 := (hr2).cell 4; have y5 := (hr2).cell 5; have y6 := (hr2).cell 6; have y7 := (hr2).cell 7; have y8 := (hr2).cell 8; have y9 := (hr2).cell 9; have y10 := (hr2).cell 10; have yl := (hr2).lt; have yf := fun o => (hr2).frozen o; simp only [encC, List.cons_append, List.getElem?_cons_zero, List.getElem?_cons_succ] at y0 y1 y2 y3 y4 y5 y6 y7 y8 y9 y10; clear hp hp2 hr2 hb hbx))
  refine bodyPost_ret (v := .agg #[.int .i64 kg.kind, .int .i64 kg.frm, .int .i64 kg.to, .int .i64 kg.words, .int .i64 kg.refresh, .int .i64 kg.lanes, .int .i64 kg.depth, .int .i64 kg.hold, .int .i64 kg.life, .int .i64 kg.rate, .int .i64 kg.cap]) (by simp [results, Try.results8, go_sem, y0, y1, y2, y3, y4, y5, y6, y7, y8, y9, y10, yl]) rfl ⟨by rw [hkg.out], ?_⟩
  have hw1 : w.heap.size ≤ w.heap.size + 1 := by omega
  exact (Below.setCell (p := ⟨w.heap.size + 1, 10, none⟩) (Below.setCell (p := ⟨w.heap.size + 1, 9, none⟩) (Below.setCell (p := ⟨w.heap.size + 1, 8, none⟩) (Below.setCell (p := ⟨w.heap.size + 1, 7, none⟩) (Below.setCell (p := ⟨w.heap.size + 1, 6, none⟩) (Below.setCell (p := ⟨w.heap.size + 1, 5, none⟩) (Below.setCell (p := ⟨w.heap.size + 1, 4, none⟩) (Below.setCell (p := ⟨w.heap.size + 1, 3, none⟩) (Below.setCell (p := ⟨w.heap.size + 1, 2, none⟩) (Below.setCell (p := ⟨w.heap.size + 1, 1, none⟩) (Below.setCell (p := ⟨w.heap.size + 1, 0, none⟩) hB2.out hw1 (.int .i64 kg.kind)) hw1 (.int .i64 kg.frm)) hw1 (.int .i64 kg.to)) hw1 (.int .i64 kg.words)) hw1 (.int .i64 kg.refresh)) hw1 (.int .i64 kg.lanes)) hw1 (.int .i64 kg.depth)) hw1 (.int .i64 kg.hold)) hw1 (.int .i64 kg.life)) hw1 (.int .i64 kg.rate)) hw1 (.int .i64 kg.cap))
end Go.Proofs.Ytggfallodkbgcaa.Cf
