/- DERIVED. Walks over the program's gates. No statement is proved here. -/
import Derived.Test.YtggfallodkbgcaaBucketW
import Derived.Test.YtggfallodkbgcaaJudgeW
namespace Go.Proofs.Ytggfallodkbgcaa.Gt
set_option linter.unusedVariables false
set_option linter.unusedSimpArgs false
open Go.RowKit Go.Proofs.Ytggfallodkbgcaa.K Go.Proofs.Ytggfallodkbgcaa.Lb Go.Proofs.Ytggfallodkbgcaa.La Go.Proofs.Ytggfallodkbgcaa.Cf
/-- A gate in memory: its own cells, its lanes, its bucket. -/
structure GateAt (w : World) (gb lb bb : Nat) (ML : Nat → Prop) (g : Gte) : Prop where
  p : pts w gb [.int .i64 g.k.kind, .int .i64 g.k.frm, .int .i64 g.k.to, .int .i64 g.k.words, .int .i64 g.k.refresh, .int .i64 g.k.lanes, .int .i64 g.k.depth, .int .i64 g.k.hold, .int .i64 g.k.life, .int .i64 g.k.rate, .int .i64 g.k.cap, .pointer (some ⟨lb, 0, none⟩), .pointer (some ⟨bb, 0, none⟩), .int .i64 g.seq] 66
  L : LanesM w ML lb (lnT g.k.lanes) (plT g.k.depth) g.ms
  B : BucketAt w bb g.b
  ok : g.b.Ok
  n1 : ¬ ML gb
  n2 : ¬ ML bb
  n3 : gb ≠ bb
  s : 0 ≤ g.seq ∧ g.seq ≤ 1000000
def GateM (w : World) (M : Nat → Prop) (gb : Nat) (g : Gte) : Prop := ∃ lb bb ML, GateAt w gb lb bb ML g ∧ (∀ b, ML b ∨ b = gb ∨ b = bb → M b) ∧ ∀ b, M b → b < w.heap.size
section
variable {w w' u u' : World} {M : Nat → Prop} {gb lb bb : Nat} {ML : Nat → Prop} {g : Gte}
theorem GateAt.kept (h : GateAt w gb lb bb ML g) (hs : w.heap.size ≤ w'.heap.size) (hk : ∀ b, ML b ∨ b = gb ∨ b = bb → b < w.heap.size → w'.heap[b]? = w.heap[b]?) : GateAt w' gb lb bb ML g :=
  ⟨h.p.of (hk gb (.inr (.inl rfl)) h.p.lt), h.L.kept hs (fun b hb hlt => hk b (.inl hb) hlt), pts.of h.B (hk bb (.inr (.inr rfl)) h.B.lt), h.ok, h.n1, h.n2, h.n3, h.s⟩
theorem GateM.kept (h : GateM w M gb g) (hs : w.heap.size ≤ w'.heap.size) (hk : ∀ b, M b → b < w.heap.size → w'.heap[b]? = w.heap[b]?) : GateM w' M gb g := by
  obtain ⟨lb, bb, ML, h1, h2, h3⟩ := h
  exact ⟨lb, bb, ML, h1.kept hs (fun b hb hlt => hk b (h2 b hb) hlt), h2, fun b hb => Nat.lt_of_lt_of_le (h3 b hb) hs⟩
theorem GateM.below (h : GateM w M gb g) (hb : Below w.heap.size w w') : GateM w' M gb g := h.kept hb.size (fun b _ hlt => hb.block b hlt)
theorem GateM.grown (h : GateM w M gb g) (hb : Below w.heap.size w w') : GateM w' (grow M w w') gb g := by
  obtain ⟨lb, bb, ML, h1, h2, h3⟩ := h.below hb
  exact ⟨lb, bb, ML, h1, fun b hb' => .inl (h2 b hb'), fun b hb' => by rcases hb' with h4 | h4; exact h3 b h4; exact h4.2⟩
theorem GateM.lt (h : GateM w M gb g) : ∀ b, M b → b < w.heap.size := let ⟨_, _, _, _, _, h3⟩ := h; h3
theorem GateM.inv (h : GateM w M gb g) : LInv (lnT g.k.lanes) (plT g.k.depth) g.ms := let ⟨_, _, _, h1, _, _⟩ := h; h1.L.inv
/-- What lane.New leaves in a region. -/
def LOut (n0 : Nat) (ln pl : Int) (gs : List Nat) (u : World) (v : Value) : Prop := ∃ lb lo hi, v = .pointer (some ⟨lb, 0, none⟩) ∧ n0 ≤ lo ∧ hi ≤ u.heap.size ∧ LanesM u (fun b => lo ≤ b ∧ b < hi) lb ln pl [] ∧ ∀ b ∈ gs, ¬ (lo ≤ b ∧ b < hi)
theorem LOut.st {n0 : Nat} {ln pl : Int} {gs gs' : List Nat} {v : Value} (h : LOut n0 ln pl gs u v) (hs : StepG gs u gs' u') : LOut n0 ln pl gs' u' v := by
  obtain ⟨lb, lo, hi, h1, h2, h3, h4, h5⟩ := h
  exact ⟨lb, lo, hi, h1, h2, Nat.le_trans h3 hs.b.size, h4.below hs.b, fun b hb => (hs.n b hb).elim (h5 b) (fun h => by omega)⟩
/-- A new gate's cells, its parts in memory. -/
def GOut (k : Chan) (n0 : Nat) (u : World) (v : Value) : Prop := ∃ lb bb lo hi, v = .agg #[.int .i64 k.kind, .int .i64 k.frm, .int .i64 k.to, .int .i64 k.words, .int .i64 k.refresh, .int .i64 k.lanes, .int .i64 k.depth, .int .i64 k.hold, .int .i64 k.life, .int .i64 k.rate, .int .i64 k.cap, .pointer (some ⟨lb, 0, none⟩), .pointer (some ⟨bb, 0, none⟩), .int .i64 0] ∧
  n0 ≤ lo ∧ hi ≤ u.heap.size ∧ LanesM u (fun b => lo ≤ b ∧ b < hi) lb (lnT k.lanes) (plT k.depth) [] ∧ BucketAt u bb (newB k.rate k.cap) ∧ n0 ≤ bb ∧ ¬ (lo ≤ bb ∧ bb < hi)
theorem GOut.below {k : Chan} {n0 : Nat} {v : Value} (h : GOut k n0 u v) (hb : Below u.heap.size u u') : GOut k n0 u' v := by
  obtain ⟨lb, bb, lo, hi, h1, h2, h3, h4, h5, h6⟩ := h
  exact ⟨lb, bb, lo, hi, h1, h2, Nat.le_trans h3 hb.size, h4.below hb, pts.below h5 hb, h6⟩
end
set_option maxHeartbeats 1000000 in
set_option maxRecDepth 100000 in
theorem gnew_c (w : World) (k : Chan) : Calls Try.prog 9 #[aggC k] w fun e w' => ∃ gb, e = .returned (.pointer (some ⟨gb, 0, none⟩)) ∧ GateM w' (fun b => w.heap.size ≤ b ∧ b < w'.heap.size) gb ⟨k, [], newB k.rate k.cap, 0⟩ ∧ Below w.heap.size w w' := by
  have hbA := hid ((Below.refl w.heap.size w).alloc (Nat.le_refl _) (.cells #[.int .i64 k.kind, .int .i64 k.frm, .int .i64 k.to, .int .i64 k.words, .int .i64 k.refresh, .int .i64 k.lanes, .int .i64 k.depth, .int .i64 k.hold, .int .i64 k.life, .int .i64 k.rate, .int .i64 k.cap] 23))
  have hK := hid (pts.newA w #[.int .i64 k.kind, .int .i64 k.frm, .int .i64 k.to, .int .i64 k.words, .int .i64 k.refresh, .int .i64 k.lanes, .int .i64 k.depth, .int .i64 k.hold, .int .i64 k.life, .int .i64 k.rate, .int .i64 k.cap] 23)
  unfold aggC
  go_enter Try.func9, Try.ntmps9
  go_upto_region 1 with fail
  generalize w.alloc (.cells #[.int .i64 k.kind, .int .i64 k.frm, .int .i64 k.to, .int .i64 k.words, .int .i64 k.refresh, .int .i64 k.lanes, .int .i64 k.depth, .int .i64 k.hold, .int .i64 k.life, .int .i64 k.rate, .int .i64 k.cap] 23) = W at hbA hK ⊢
  obtain ⟨kb, hkb⟩ : ∃ kb, kb = w.heap.size := ⟨_, rfl⟩
  rw [← hkb] at hK ⊢
  replace hkb := hid hkb
  -- REG empennage/gate.New|1|gateNew.1
  refine region_tab 12 [Sp.eq (.agg #[.int .i64 k.kind, .int .i64 k.frm, .int .i64 k.to, .int .i64 k.words, .int .i64 k.refresh, .int .i64 k.lanes, .int .i64 k.depth, .int .i64 k.hold, .int .i64 k.life, .int .i64 k.rate, .int .i64 k.cap]), Sp.eq (.pointer (some ⟨kb, 5, none⟩)), Sp.eq (.int .i64 k.lanes), Sp.eq (.pointer (some ⟨kb, 6, none⟩)), Sp.eq (.int .i64 k.depth), ⟨fun v gs u => LOut W.heap.size (lnT k.lanes) (plT k.depth) gs u v, fun v gs w gs' w' h hs => h.st hs⟩, Sp.eq (.pointer (some ⟨kb, 9, none⟩)), Sp.eq (.int .i64 k.rate), Sp.eq (.pointer (some ⟨kb, 10, none⟩)), Sp.eq (.int .i64 k.cap), ⟨fun v gs u => ∃ bb, v = .pointer (some ⟨bb, 0, none⟩) ∧ BucketAt u bb (newB k.rate k.cap) ∧ bb ∈ gs, fun v gs w gs' w' h hs => (show ∃ bb, _ from h.imp (fun bb h => ⟨h.1, h.2.1.below hs.b, hs.o _ h.2.2⟩))⟩, Sp.of (fun v u => GOut k W.heap.size u v) (fun v w w' h hb => h.below hb)] (fun _ _ _ _ _ h => h) (by kernel_rfl) (by kernel_rfl) ⟨?_, ?_, ?_, ?_, ?_, ?_, ?_, ?_, ?_, ?_, ?_, ?_, trivial⟩ ?_
  · intro ac gs u hb hg h
    have e1 : ac.tmps[1]?.getD undef = .pointer (some ⟨kb, 0, none⟩) := h.inm 1 rfl rfl
    refine opFree rfl ?_
    exact relRun (v := .agg #[.int .i64 k.kind, .int .i64 k.frm, .int .i64 k.to, .int .i64 k.words, .int .i64 k.refresh, .int .i64 k.lanes, .int .i64 k.depth, .int .i64 k.hold, .int .i64 k.life, .int .i64 k.rate, .int .i64 k.cap]) (w' := u) (by simp [go_sem, e1, ((hK.out.below hb).cell 0), ((hK.out.below hb).cell 1), ((hK.out.below hb).cell 2), ((hK.out.below hb).cell 3), ((hK.out.below hb).cell 4), ((hK.out.below hb).cell 5), ((hK.out.below hb).cell 6), ((hK.out.below hb).cell 7), ((hK.out.below hb).cell 8), ((hK.out.below hb).cell 9), ((hK.out.below hb).cell 10)]) (okP hg rfl)
  · intro ac gs u hb hg h
    have e1 : ac.tmps[1]?.getD undef = .pointer (some ⟨kb, 0, none⟩) := h.inm 1 rfl rfl
    refine opFree rfl ?_
    exact relRun (v := .pointer (some ⟨kb, 5, none⟩)) (w' := u) (by simp [go_sem, e1]) (okP hg rfl)
  · intro ac gs u hb hg h
    have e4 : ac.tmps[4]?.getD undef = .pointer (some ⟨kb, 5, none⟩) := h.tm 1 4 rfl rfl
    refine opFree rfl ?_
    exact relRun (v := .int .i64 k.lanes) (w' := u) (by simp [go_sem, e4, ((hK.out.below hb).cell 5)]) (okP hg rfl)
  · intro ac gs u hb hg h
    have e1 : ac.tmps[1]?.getD undef = .pointer (some ⟨kb, 0, none⟩) := h.inm 1 rfl rfl
    refine opFree rfl ?_
    exact relRun (v := .pointer (some ⟨kb, 6, none⟩)) (w' := u) (by simp [go_sem, e1]) (okP hg rfl)
  · intro ac gs u hb hg h
    have e6 : ac.tmps[6]?.getD undef = .pointer (some ⟨kb, 6, none⟩) := h.tm 3 6 rfl rfl
    refine opFree rfl ?_
    exact relRun (v := .int .i64 k.depth) (w' := u) (by simp [go_sem, e6, ((hK.out.below hb).cell 6)]) (okP hg rfl)
  · intro ac gs u hb hg h
    have e5 : ac.tmps[5]?.getD undef = .int .i64 k.lanes := h.tm 2 5 rfl rfl
    have e7 : ac.tmps[7]?.getD undef = .int .i64 k.depth := h.tm 4 7 rfl rfl
    refine opFree rfl ?_
    refine relCall (f := _) (args := #[.int .i64 k.lanes, .int .i64 k.depth]) (by simp [go_sem, e5, e7]; rfl) ?_
    refine (La.new_c u k.lanes k.depth).mono ?_
    rintro e w' ⟨lb, rfl, hL, hb'⟩
    exact ⟨_, rfl, okB hg hb' ⟨lb, u.heap.size, w'.heap.size, rfl, hb.size, Nat.le_refl _, hL, fun b hb1 h => by have := (hg b hb1).2; omega⟩⟩
  · intro ac gs u hb hg h
    have e1 : ac.tmps[1]?.getD undef = .pointer (some ⟨kb, 0, none⟩) := h.inm 1 rfl rfl
    refine opFree rfl ?_
    exact relRun (v := .pointer (some ⟨kb, 9, none⟩)) (w' := u) (by simp [go_sem, e1]) (okP hg rfl)
  · intro ac gs u hb hg h
    have e9 : ac.tmps[9]?.getD undef = .pointer (some ⟨kb, 9, none⟩) := h.tm 6 9 rfl rfl
    refine opFree rfl ?_
    exact relRun (v := .int .i64 k.rate) (w' := u) (by simp [go_sem, e9, ((hK.out.below hb).cell 9)]) (okP hg rfl)
  · intro ac gs u hb hg h
    have e1 : ac.tmps[1]?.getD undef = .pointer (some ⟨kb, 0, none⟩) := h.inm 1 rfl rfl
    refine opFree rfl ?_
    exact relRun (v := .pointer (some ⟨kb, 10, none⟩)) (w' := u) (by simp [go_sem, e1]) (okP hg rfl)
  · intro ac gs u hb hg h
    have e11 : ac.tmps[11]?.getD undef = .pointer (some ⟨kb, 10, none⟩) := h.tm 8 11 rfl rfl
    refine opFree rfl ?_
    exact relRun (v := .int .i64 k.cap) (w' := u) (by simp [go_sem, e11, ((hK.out.below hb).cell 10)]) (okP hg rfl)
  · intro ac gs u hb hg h
    have e10 : ac.tmps[10]?.getD undef = .int .i64 k.rate := h.tm 7 10 rfl rfl
    have e12 : ac.tmps[12]?.getD undef = .int .i64 k.cap := h.tm 9 12 rfl rfl
    refine opFree rfl ?_
    refine relCall (f := _) (args := #[.int .i64 k.rate, .int .i64 k.cap]) (by simp [go_sem, e10, e12]; rfl) ?_
    refine (bnew_c u k.rate k.cap).mono ?_
    rintro e w' ⟨bb, rfl, hge, hB, hb'⟩
    exact ⟨_, rfl, okG bb hg hb' hge hB.lt ⟨bb, rfl, hB, List.mem_cons_self⟩⟩
  · intro ac gs u hb hg h
    have e3 : ac.tmps[3]?.getD undef = .agg #[.int .i64 k.kind, .int .i64 k.frm, .int .i64 k.to, .int .i64 k.words, .int .i64 k.refresh, .int .i64 k.lanes, .int .i64 k.depth, .int .i64 k.hold, .int .i64 k.life, .int .i64 k.rate, .int .i64 k.cap] := h.tm 0 3 rfl rfl
    have e8 := h.tm 5 8 rfl rfl
    have e13 := h.tm 10 13 rfl rfl
    refine opFree rfl ?_
    obtain ⟨lb, lo, hi, h1, h2, h3, h4, h5⟩ := e8
    obtain ⟨bb, h6, h7, h8⟩ := e13
    exact relRun (v := .agg #[.int .i64 k.kind, .int .i64 k.frm, .int .i64 k.to, .int .i64 k.words, .int .i64 k.refresh, .int .i64 k.lanes, .int .i64 k.depth, .int .i64 k.hold, .int .i64 k.life, .int .i64 k.rate, .int .i64 k.cap, .pointer (some ⟨lb, 0, none⟩), .pointer (some ⟨bb, 0, none⟩), .int .i64 0]) (w' := u) (by simp [go_sem, e3, h1, h6]) (okP hg ⟨lb, bb, lo, hi, rfl, h2, h3, h4, h7, (hg bb h8).1, h5 bb h8⟩)
  intro vs gs u hb hg hr
  have r0 : vs 0 = .agg #[.int .i64 k.kind, .int .i64 k.frm, .int .i64 k.to, .int .i64 k.words, .int .i64 k.refresh, .int .i64 k.lanes, .int .i64 k.depth, .int .i64 k.hold, .int .i64 k.life, .int .i64 k.rate, .int .i64 k.cap] := hr 0 (by decide)
  have r1 : vs 1 = .pointer (some ⟨kb, 5, none⟩) := hr 1 (by decide)
  have r2 : vs 2 = .int .i64 k.lanes := hr 2 (by decide)
  have r3 : vs 3 = .pointer (some ⟨kb, 6, none⟩) := hr 3 (by decide)
  have r4 : vs 4 = .int .i64 k.depth := hr 4 (by decide)
  have r5 := hr 5 (by decide)
  have r6 : vs 6 = .pointer (some ⟨kb, 9, none⟩) := hr 6 (by decide)
  have r7 : vs 7 = .int .i64 k.rate := hr 7 (by decide)
  have r8 : vs 8 = .pointer (some ⟨kb, 10, none⟩) := hr 8 (by decide)
  have r9 : vs 9 = .int .i64 k.cap := hr 9 (by decide)
  have r10 := hr 10 (by decide)
  have r11 := hr 11 (by decide)
  obtain ⟨lb, bb, lo, hi, e14, h2, h3, h4, h7, h8, h9⟩ := r11
  simp only [List.take_succ_cons, List.take_zero, List.drop_succ_cons, List.drop_zero, putOps, r0, r1, r2, r3, r4, r6, r7, r8, r9, e14]
  simp only [Act.put, List.setIfInBounds_toArray, List.set_cons_succ, List.set_cons_zero]
  clear hr r0 r1 r2 r3 r4 r6 r7 r8 r9 e14
  -- GER
  have hbu := Below.next hbA.out hb hbA.out.size
  have hsz := Nat.le_trans hbA.out.size hb.size
  have hbX := (Below.refl u.heap.size u).alloc (Nat.le_refl _) (.cells #[.int .i64 k.kind, .int .i64 k.frm, .int .i64 k.to, .int .i64 k.words, .int .i64 k.refresh, .int .i64 k.lanes, .int .i64 k.depth, .int .i64 k.hold, .int .i64 k.life, .int .i64 k.rate, .int .i64 k.cap, .pointer (some ⟨lb, 0, none⟩), .pointer (some ⟨bb, 0, none⟩), .int .i64 0] 66)
  have hG : GateAt (u.alloc (.cells #[.int .i64 k.kind, .int .i64 k.frm, .int .i64 k.to, .int .i64 k.words, .int .i64 k.refresh, .int .i64 k.lanes, .int .i64 k.depth, .int .i64 k.hold, .int .i64 k.life, .int .i64 k.rate, .int .i64 k.cap, .pointer (some ⟨lb, 0, none⟩), .pointer (some ⟨bb, 0, none⟩), .int .i64 0] 66)) u.heap.size lb bb (fun b => lo ≤ b ∧ b < hi) ⟨k, [], newB k.rate k.cap, 0⟩ :=
    ⟨pts.newA u _ _, h4.below hbX, pts.below h7 hbX, newB_ok _ _, fun h => by omega, h9, fun e => by have := h7.lt; omega, ⟨by simp, by simp⟩⟩
  have hlt := h7.lt
  have hfin : Hid (GateM (u.alloc (.cells #[.int .i64 k.kind, .int .i64 k.frm, .int .i64 k.to, .int .i64 k.words, .int .i64 k.refresh, .int .i64 k.lanes, .int .i64 k.depth, .int .i64 k.hold, .int .i64 k.life, .int .i64 k.rate, .int .i64 k.cap, .pointer (some ⟨lb, 0, none⟩), .pointer (some ⟨bb, 0, none⟩), .int .i64 0] 66)) (fun b => w.heap.size ≤ b ∧ b < u.heap.size + 1) u.heap.size ⟨k, [], newB k.rate k.cap, 0⟩) :=
    hid ⟨lb, bb, _, hG, fun b hb1 => by have := hbA.out.size; rcases hb1 with h | h | h <;> omega, fun b hb1 => by simp; omega⟩
  have hbf := hid (Below.next hbu hbX hsz)
  clear hbu hsz hbX hG hlt h2 h3 h4 h7 h8 h9 hb hg hK
  go_wp2
  go_ret
  exact ⟨_, rfl, by simpa using hfin.out, hbf.out⟩
end Go.Proofs.Ytggfallodkbgcaa.Gt
