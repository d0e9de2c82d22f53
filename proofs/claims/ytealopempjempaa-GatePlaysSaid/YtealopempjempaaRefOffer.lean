/- DERIVED. The walks over the reference's gate: New, Offer. No statement is proved here. -/
import Derived.Test.YtealopempjempaaRefBuck
import Derived.Deep.MidRow
import Derived.Test.YtealopempjempaaRefGate
import Derived.Test.YtealopempjempaaRefLaneD
import Derived.Test.YtealopempjempaaGateRefusesP
import Derived.Test.YtealopempjempaaGateO
namespace Go.Proofs.Ytealopempjempaa.Gt
set_option linter.unusedVariables false
set_option linter.unusedSimpArgs false
open Go.RowKit Go.Proofs.Ytealopempjempaa.K Go.Proofs.Ytealopempjempaa.Lb Go.Proofs.Ytealopempjempaa.La Go.Proofs.Ytealopempjempaa.Cf Go.Proofs.Ytealopempjempaa.Rl
/-- The reference's gate, its cells. -/
def encGt (k : Chan) (rv : Value) (b : Bk) (seq : Int) : List Value := [.int .i64 k.kind, .int .i64 k.frm, .int .i64 k.to, .int .i64 k.words, .int .i64 k.refresh, .int .i64 k.lanes, .int .i64 k.depth, .int .i64 k.hold, .int .i64 k.life, .int .i64 k.rate, .int .i64 k.cap, .int .i64 (lnT k.lanes), .int .i64 (plT k.depth), rv, .int .i64 b.rate, .int .i64 b.cap, .int .i64 b.tokens, .int .i64 b.round, .int .i64 seq]
def aggG (k : Chan) (rv : Value) (b : Bk) (seq : Int) : Value := .agg #[.int .i64 k.kind, .int .i64 k.frm, .int .i64 k.to, .int .i64 k.words, .int .i64 k.refresh, .int .i64 k.lanes, .int .i64 k.depth, .int .i64 k.hold, .int .i64 k.life, .int .i64 k.rate, .int .i64 k.cap, .int .i64 (lnT k.lanes), .int .i64 (plT k.depth), rv, .int .i64 b.rate, .int .i64 b.cap, .int .i64 b.tokens, .int .i64 b.round, .int .i64 seq]
def zeroG : List Value := [.int .i64 0, .int .i64 0, .int .i64 0, .int .i64 0, .int .i64 0, .int .i64 0, .int .i64 0, .int .i64 0, .int .i64 0, .int .i64 0, .int .i64 0, .int .i64 0, .int .i64 0, .slice none 0 0, .int .i64 0, .int .i64 0, .int .i64 0, .int .i64 0, .int .i64 0]
def zeroM : List Value := [.slice none 0 0, .int .i64 0, .int .i64 0, .int .i64 0, .int .i64 0]
def ROfferPost (w : World) (ok : Nat → Prop) (r : Gte × Msg × Int) (e : Ending) (w' : World) : Prop :=
  ∃ rv' ps' a c, e = .returned (.tuple #[aggG r.1.k rv' r.1.b r.1.seq, .agg #[.slice a r.2.1.words.length c, .int .i64 r.2.1.lane, .int .i64 r.2.1.stamp, .int .i64 r.2.1.late, .int .i64 r.2.1.seq], .int .i64 r.2.2]) ∧
    ps'.map Prod.snd = sortM r.1.ms ∧ MsgsAt (orNew ok w) (orNew ok w) w' rv' ps' ∧ Plain rv' ∧ IntsAt (fun b => w.heap.size ≤ b) w' (.slice a r.2.1.words.length c) r.2.1.words ∧ Below w.heap.size w w'
theorem MsgsAt.setN {ok okw : Nat → Prop} {w : World} {v : Value} {ps : List (Value × Msg)} (h : MsgsAt ok okw w v ps) {b : Nat} (h1 : ¬ ok b) (h2 : ¬ okw b) (vs : List Value) (o : Nat) : MsgsAt ok okw (setN w b o vs) v ps :=
  h.kept (setN_own b vs o w).size (fun c hc hlt => (setN_own b vs o w).block c hlt (fun e => by rcases hc with hc | hc; exact h1 (e ▸ hc); exact h2 (e ▸ hc)))
theorem IntsAt.setN {ok : Nat → Prop} {w : World} {v : Value} {ws : List Int} (h : IntsAt ok w v ws) {b : Nat} (h1 : ¬ ok b) (vs : List Value) (o : Nat) : IntsAt ok (setN w b o vs) v ws :=
  h.kept (setN_own b vs o w).size (fun c hc hlt => (setN_own b vs o w).block c hlt (fun e => h1 (e ▸ hc)))
theorem three_boxes (w : World) (A B C : List Value) (TA TB TC : TypeId) : let W := ((w.alloc (.cells A.toArray TA)).alloc (.cells B.toArray TB)).alloc (.cells C.toArray TC)
    pts W w.heap.size A TA ∧ pts W (w.heap.size + 1) B TB ∧ pts W (w.heap.size + 1 + 1) C TC ∧ Below w.heap.size w W := by
  intro W
  have hA := ((pts.newA w A.toArray TA).alloc (.cells B.toArray TB)).alloc (.cells C.toArray TC)
  have hB := (pts.newA (w.alloc (.cells A.toArray TA)) B.toArray TB).alloc (.cells C.toArray TC)
  have hC := pts.newA ((w.alloc (.cells A.toArray TA)).alloc (.cells B.toArray TB)) C.toArray TC
  refine ⟨by simpa using hA, by simpa using hB, by simpa using hC, ?_⟩
  exact (((Below.refl w.heap.size w).alloc (Nat.le_refl _) _).alloc (by simp) _).alloc (by simp; omega) _
section
variable {ops : Array Oper} {rest : List Oper} {o : Oper} {a : Act} {w w' : World} {Q : Exit → Act → World → Prop} {v : Value}
theorem lVal (hgd : o.guard = none) (hr : (execOp a.eval o).run Try.prog w = .ok (.value v) w') (h : wpList Try.prog ops Q rest (a.put o.dst v) w') : wpList Try.prog ops Q (o :: rest) a w :=
  wpList_plain hgd fun K hK => by unfold Oper.wp; rw [hr]; exact hK _ _ h
theorem lPure (hgd : o.guard = none) (hr : (execOp a.eval o).run Try.prog w = .ok (.value v) w) (h : wpList Try.prog ops Q rest (a.put o.dst v) w) : wpList Try.prog ops Q (o :: rest) a w := lVal hgd hr h
theorem setN_eq (b : Nat) : ∀ (vs : List Value) (o : Nat) (w : World), w.setCells b o vs = setN w b o vs
  | [], _, _ => rfl
  | v :: t, o, w => by unfold World.setCells setN; exact setN_eq b t (o + 1) _
theorem pRange {b : Nat} {cs : List Value} {T : TypeId} (h : pts w b cs T) : w.rangeAt b 0 cs := fun j v hv => by rw [Nat.zero_add, h.cell]; exact hv
theorem pThere {b : Nat} {cs : List Value} {T : TypeId} (h : pts w b cs T) : w.there b 0 cs.length := fun j hj => by
  rw [Nat.zero_add, h.cell, h.frozen]; exact ⟨by simp [hj], rfl⟩
theorem lLoad {T T' : TypeId} {x : Operand} {b : Nat} {cs : List Value} {d : TypeDesc} (hgd : o.guard = none) (ho : o.op = .load T x) (hx : a.eval x = .pointer (some ⟨b, 0, none⟩)) (hp : pts w b cs T') (hu : Try.prog.underlying T = some d) (hd : d.isRow = true) (hi : (Try.prog.info? T).map (·.size) = some cs.length)
    (h : wpList Try.prog ops Q rest (a.put o.dst (.agg cs.toArray)) w) : wpList Try.prog ops Q (o :: rest) a w := wpList_load_mid hgd T x ho b 0 hx cs d (pRange hp) hu hd hi h
theorem lStore {T T' : TypeId} {x y : Operand} {b : Nat} {old cs : List Value} (hgd : o.guard = none) (ho : o.op = .store T x y) (hx : a.eval x = .pointer (some ⟨b, 0, none⟩)) (hy : a.eval y = .agg cs.toArray) (hp : pts w b old T') (hl : old.length = cs.length) (hi : (Try.prog.info? T).map (·.size) = some cs.length) (h1 : cs.all (·.oneCell') = true)
    (h : wpList Try.prog ops Q rest (a.put o.dst undef) (setN w b 0 cs)) : wpList Try.prog ops Q (o :: rest) a w :=
  wpList_store_mid hgd T x y ho b 0 cs.toArray hx hy (by have := pThere hp; rw [hl] at this; simpa using this) (by simpa using hi) (by simpa using h1) (by rw [setN_eq]; exact h)
theorem xLoad {T T' : TypeId} {s : Tmp} {b : Nat} {cs : List Value} {d : TypeDesc} (ho : o.op = .load T (.tmp s)) (hx : a.tmps[s]?.getD undef = .pointer (some ⟨b, 0, none⟩)) (hp : pts w b cs T') (hu : Try.prog.underlying T = some d) (hd : d.isRow = true) (hi : (Try.prog.info? T).map (·.size) = some cs.length) : (execOp a.eval o).run Try.prog w = .ok (.value (.agg cs.toArray)) w := by
  unfold execOp
  simp only [ho, eval_tmp, hx, Instr.loadAt, Instr.sureAddr, Sem.run_bind, Sem.run_pure, Result.andThen_ok, run_loadVar_mid w b 0 T cs d (pRange hp) hu hd hi]
theorem xAppend {s x : Tmp} {t : TypeId} {v xv v' : Value} (ho : o.op = .call { callee := .builtin .append, args := #[.tmp s, .tmp x], argTypes := #[t, t] }) (hs : a.tmps[s]?.getD undef = v) (hx : a.tmps[x]?.getD undef = xv) (hr : (Builtin.append_ #[t, t] o.type #[v, xv]).run Try.prog w = .ok v' w') : (execOp a.eval o).run Try.prog w = .ok (.value v') w' := by
  unfold execOp
  simp only [ho, eval_tmp, resolve, invoke, builtin, Sem.run_bind, Sem.run_pure, Result.andThen_ok, List.map_toArray, List.map_cons, List.map_nil, hs, hx, hr]
theorem relSkip {Φ : Value → World → Prop} (h : (execOp a.eval o).run Try.prog w = .ok .skip w') (hk : Φ undef w') : relAt Try.prog o a w Φ := by
  unfold relAt; rw [h]; exact hk
theorem xStore {T T' : TypeId} {s t : Tmp} {b : Nat} {old cs : List Value} (ho : o.op = .store T (.tmp s) (.tmp t)) (hx : a.tmps[s]?.getD undef = .pointer (some ⟨b, 0, none⟩)) (hy : a.tmps[t]?.getD undef = .agg cs.toArray) (hp : pts w b old T') (hl : old.length = cs.length) (hi : (Try.prog.info? T).map (·.size) = some cs.length) (h1 : cs.all (·.oneCell') = true) : (execOp a.eval o).run Try.prog w = .ok .skip (setN w b 0 cs) := by
  unfold execOp
  simp only [ho, eval_tmp, hx, hy, Instr.storeAt, Instr.sureAddr, Sem.run_bind, Sem.run_pure, Result.andThen_ok, run_storeVar_mid w b 0 T cs.toArray (by have := pThere hp; rw [hl] at this; simpa using this) (by simpa using hi) (by simpa using h1), setN_eq]
end
theorem roffer_ret {a : Act} {wf : World} {R : Ending → World → Prop} {nb mb : Nat} {gc mc : List Value} {e : Int} (h12 : a.tmps[12]? = some (.pointer (some ⟨nb, 0, none⟩))) (h13 : a.tmps[13]? = some (.pointer (some ⟨mb, 0, none⟩))) (h14 : a.tmps[14]? = some (.int .i64 e)) (hd : a.defers = []) (hN : pts wf nb gc 60) (hM : pts wf mb mc 37) (hgl : gc.length = 19) (hml : mc.length = 5)
    (hR : R (.returned (.tuple #[.agg gc.toArray, .agg mc.toArray, .int .i64 e])) wf) : bodyPost Try.prog Try.f29 R .ret a wf := by
  have h1 := run_loadVar_mid (P := Try.prog) wf nb 0 60 gc _ (pRange hN) Try.underlying60 rfl (by rw [hgl]; kernel_rfl)
  have h2 := run_loadVar_mid (P := Try.prog) wf mb 0 37 mc _ (pRange hM) Try.underlying37 rfl (by rw [hml]; kernel_rfl)
  refine bodyPost_ret (v := .tuple #[.agg gc.toArray, .agg mc.toArray, .int .i64 e]) ?_ hd hR
  simp [results, Try.results29, asAddr, h1, h2, h12, h13, h14]
-- GEN
set_option maxHeartbeats 4000000 in
set_option maxRecDepth 100000 in
theorem roffer_c {ok okI : Nat → Prop} {w : World} {k : Chan} {ms : List Msg} {b : Bk} {seq : Int} {rv : Value} {ps : List (Value × Msg)} (hq : MsgsAt ok ok w rv ps) (hpv : Plain rv) (he : ps.map Prod.snd = sortM ms) (hsm : ps.length < 1000) (hbk : b.Ok) (hseq : 0 ≤ seq ∧ seq < 1000000) {wa : Option Addr} {wc : Nat} {ws : List Int} (hws : IntsAt okI w (.slice wa ws.length wc) ws) (hl : ws.length ≤ 17592186044416) (mode lane now round : Int) : Calls Try.prog 29 #[aggG k rv b seq, .int .i64 mode, .int .i64 lane, .slice wa ws.length wc, .int .i64 now, .int .i64 round] w (ROfferPost w ok (offerT ⟨k, ms, b, seq⟩ mode lane ws now round)) := by
  have hjc := hid (fun w' (h : IntsAt okI w' (.slice wa ws.length wc) ws) => rjudge_c k mode lane h)
  have hlnp := hid (show (1 ≤ lnT k.lanes ∧ lnT k.lanes ≤ 3) ∧ (1 ≤ plT k.depth ∧ plT k.depth ≤ 8) from ⟨by unfold lnT; omega, by unfold plT; omega⟩)
  have htc := hid (fun w' => rbtake_c w' hbk round)
  have hroom : roomT (lnT k.lanes) (plT k.depth) (ps.map Prod.snd) lane = roomT (lnT k.lanes) (plT k.depth) ms lane := by rw [he, room_sort]
  have hof : offerT ⟨k, ms, b, seq⟩ mode lane ws now round = (if judgeT k mode lane ws ≠ 0 then (⟨k, ms, b, seq⟩, zeroMsg, judgeT k mode lane ws) else if roomT (lnT k.lanes) (plT k.depth) ms lane = 0 then (⟨k, ms, b, seq⟩, zeroMsg, 2) else if (comeB b round).tokens = 0 then (⟨k, ms, comeB b round, seq⟩, zeroMsg, 2) else (⟨k, ms ++ [⟨ws, lane, cutT now, addT now k.life, seq + 1⟩], useB (comeB b round), seq + 1⟩, ⟨ws, lane, cutT now, addT now k.life, seq + 1⟩, 0)) := rfl
  obtain ⟨R, hR⟩ : ∃ R, offerT ⟨k, ms, b, seq⟩ mode lane ws now round = R := ⟨_, rfl⟩
  rw [hR] at hof ⊢
  clear hR
  obtain ⟨ra, rc, rfl⟩ := hq.shape
  have hB0 := Below.refl w.heap.size w
  obtain ⟨b1, hb1⟩ : ∃ b1, comeB b round = b1 := ⟨_, rfl⟩
  rw [hb1] at htc hof
  clear hb1 hbk
  obtain ⟨br, bc, bt, bd⟩ := b
  unfold RTakePost at htc
  obtain ⟨q, hqb⟩ : ∃ q, (if b1.tokens = 0 then b1 else useB b1) = q := ⟨_, rfl⟩
  obtain ⟨f, hf⟩ : ∃ f, decide (b1.tokens ≠ 0) = f := ⟨_, rfl⟩
  rw [hqb, hf] at htc
  replace hqb := hid hqb
  replace hf := hid hf
  obtain ⟨qr, qc, qt, qd⟩ := q
  simp only [aggC] at hjc
  simp only [aggB] at htc
  unfold aggG
  obtain ⟨j, hj⟩ : ∃ j, judgeT k mode lane ws = j := ⟨_, rfl⟩
  rw [hj] at hjc hof
  obtain ⟨rm, hrm⟩ : ∃ rm, roomT (lnT k.lanes) (plT k.depth) ms lane = rm := ⟨_, rfl⟩
  rw [hrm] at hroom hof
  replace hof := hid hof
  replace hq := hid hq
  replace hws := hid hws
  replace hroom := hid hroom
  replace hj := hid hj
  replace hrm := hid hrm
  replace he := hid he
  replace hpv := hid hpv
  go_enter Try.func29, Try.ntmps29
  go_upto_region 1 with fail
  obtain ⟨hG1, hN1, hM1, hB1⟩ := three_boxes w [.int .i64 k.kind, .int .i64 k.frm, .int .i64 k.to, .int .i64 k.words, .int .i64 k.refresh, .int .i64 k.lanes, .int .i64 k.depth, .int .i64 k.hold, .int .i64 k.life, .int .i64 k.rate, .int .i64 k.cap, .int .i64 (lnT k.lanes), .int .i64 (plT k.depth), .slice ra ps.length rc, .int .i64 br, .int .i64 bc, .int .i64 bt, .int .i64 bd, .int .i64 seq] zeroG zeroM 60 60 37
  change pts (((w.alloc (.cells #[.int .i64 k.kind, .int .i64 k.frm, .int .i64 k.to, .int .i64 k.words, .int .i64 k.refresh, .int .i64 k.lanes, .int .i64 k.depth, .int .i64 k.hold, .int .i64 k.life, .int .i64 k.rate, .int .i64 k.cap, .int .i64 (lnT k.lanes), .int .i64 (plT k.depth), .slice ra ps.length rc, .int .i64 br, .int .i64 bc, .int .i64 bt, .int .i64 bd, .int .i64 seq] 60)).alloc (.cells #[.int .i64 0, .int .i64 0, .int .i64 0, .int .i64 0, .int .i64 0, .int .i64 0, .int .i64 0, .int .i64 0, .int .i64 0, .int .i64 0, .int .i64 0, .int .i64 0, .int .i64 0, .slice none 0 0, .int .i64 0, .int .i64 0, .int .i64 0, .int .i64 0, .int .i64 0] 60)).alloc (.cells #[.slice none 0 0, .int .i64 0, .int .i64 0, .int .i64 0, .int .i64 0] 37)) _ _ _ at hG1 hN1 hM1
  change Below _ _ (((w.alloc (.cells #[.int .i64 k.kind, .int .i64 k.frm, .int .i64 k.to, .int .i64 k.words, .int .i64 k.refresh, .int .i64 k.lanes, .int .i64 k.depth, .int .i64 k.hold, .int .i64 k.life, .int .i64 k.rate, .int .i64 k.cap, .int .i64 (lnT k.lanes), .int .i64 (plT k.depth), .slice ra ps.length rc, .int .i64 br, .int .i64 bc, .int .i64 bt, .int .i64 bd, .int .i64 seq] 60)).alloc (.cells #[.int .i64 0, .int .i64 0, .int .i64 0, .int .i64 0, .int .i64 0, .int .i64 0, .int .i64 0, .int .i64 0, .int .i64 0, .int .i64 0, .int .i64 0, .int .i64 0, .int .i64 0, .slice none 0 0, .int .i64 0, .int .i64 0, .int .i64 0, .int .i64 0, .int .i64 0] 60)).alloc (.cells #[.slice none 0 0, .int .i64 0, .int .i64 0, .int .i64 0, .int .i64 0] 37)) at hB1
  generalize (((w.alloc (.cells #[.int .i64 k.kind, .int .i64 k.frm, .int .i64 k.to, .int .i64 k.words, .int .i64 k.refresh, .int .i64 k.lanes, .int .i64 k.depth, .int .i64 k.hold, .int .i64 k.life, .int .i64 k.rate, .int .i64 k.cap, .int .i64 (lnT k.lanes), .int .i64 (plT k.depth), .slice ra ps.length rc, .int .i64 br, .int .i64 bc, .int .i64 bt, .int .i64 bd, .int .i64 seq] 60)).alloc (.cells #[.int .i64 0, .int .i64 0, .int .i64 0, .int .i64 0, .int .i64 0, .int .i64 0, .int .i64 0, .int .i64 0, .int .i64 0, .int .i64 0, .int .i64 0, .int .i64 0, .int .i64 0, .slice none 0 0, .int .i64 0, .int .i64 0, .int .i64 0, .int .i64 0, .int .i64 0] 60)).alloc (.cells #[.slice none 0 0, .int .i64 0, .int .i64 0, .int .i64 0, .int .i64 0] 37)) = W1 at hG1 hN1 hM1 hB1 ⊢
  obtain ⟨gb, hgb⟩ : ∃ gb, gb = w.heap.size := ⟨_, rfl⟩
  rw [show w.heap.size + 1 + 1 = w.heap.size + 2 from rfl] at hM1 ⊢
  rw [← hgb] at hG1 hN1 hM1 ⊢
  have hgb0 : w.heap.size ≤ gb := by omega
  have hgb1 : w.heap.size ≤ gb + 1 := by omega
  have hgb2 : w.heap.size ≤ gb + 2 := by omega
  replace hgb := hid hgb
  replace hG1 := hid hG1
  replace hN1 := hid hN1
  replace hM1 := hid hM1
  replace hB1 := hid hB1
  clear hB0
  have x0 := hG1.out.cell 0
  have x1 := hG1.out.cell 1
  have x2 := hG1.out.cell 2
  have x3 := hG1.out.cell 3
  have x4 := hG1.out.cell 4
  have x5 := hG1.out.cell 5
  have x6 := hG1.out.cell 6
  have x7 := hG1.out.cell 7
  have x8 := hG1.out.cell 8
  have x9 := hG1.out.cell 9
  have x10 := hG1.out.cell 10
  have x11 := hG1.out.cell 11
  have x12 := hG1.out.cell 12
  have x13 := hG1.out.cell 13
  have x14 := hG1.out.cell 14
  have x15 := hG1.out.cell 15
  have x16 := hG1.out.cell 16
  have x17 := hG1.out.cell 17
  have x18 := hG1.out.cell 18
  have xl := hG1.out.lt
  have xf := fun o => hG1.out.frozen o
  simp only [encGt, zeroG, zeroM, List.getElem?_cons_zero, List.getElem?_cons_succ] at x0 x1 x2 x3 x4 x5 x6 x7 x8 x9 x10 x11 x12 x13 x14 x15 x16 x17 x18
  go_upto_region 2 with (first | (go_at_call 14; (with_reducible refine (hjc.out _ (hws.out.below hB1.out)).mono ?_); rintro e w2 ⟨rfl, hb⟩; have hG2 := hid (hG1.out.below hb); have hN2 := hid (hN1.out.below hb); have hM2 := hid (hM1.out.below hb); have hB2 := hid (Below.next hB1.out hb hB1.out.size); clear hb hG1 hN1 hM1 hB1))
  clear x0 x1 x2 x3 x4 x5 x6 x7 x8 x9 x10 x11 x12 x13 x14 x15 x16 x17 x18 xl xf
  by_cases hj0 : j = 0
  rotate_left
  · have q0 : (j != 0) = true := by simpa using hj0
    have hRe := hof.out
    rw [if_pos hj0] at hRe
    replace hRe := hid hRe
    replace hj0 := hid hj0
    clear hjc htc
    go_upto_region 3 with fail
    have hFN := hid (setN_other (b := gb + 2) (by omega) [.slice none 0 0, .int .i64 0, .int .i64 0, .int .i64 0, .int .i64 0] 0 _ (setN_pts0 hN2.out [.int .i64 k.kind, .int .i64 k.frm, .int .i64 k.to, .int .i64 k.words, .int .i64 k.refresh, .int .i64 k.lanes, .int .i64 k.depth, .int .i64 k.hold, .int .i64 k.life, .int .i64 k.rate, .int .i64 k.cap, .int .i64 (lnT k.lanes), .int .i64 (plT k.depth), .slice ra ps.length rc, .int .i64 br, .int .i64 bc, .int .i64 bt, .int .i64 bd, .int .i64 seq] rfl))
    have hFM := hid (setN_pts0 (setN_other (b := gb + 1) (by omega) [.int .i64 k.kind, .int .i64 k.frm, .int .i64 k.to, .int .i64 k.words, .int .i64 k.refresh, .int .i64 k.lanes, .int .i64 k.depth, .int .i64 k.hold, .int .i64 k.life, .int .i64 k.rate, .int .i64 k.cap, .int .i64 (lnT k.lanes), .int .i64 (plT k.depth), .slice ra ps.length rc, .int .i64 br, .int .i64 bc, .int .i64 bt, .int .i64 bd, .int .i64 seq] 0 _ hM2.out) [.slice none 0 0, .int .i64 0, .int .i64 0, .int .i64 0, .int .i64 0] rfl)
    have hFB := hid (setN_below (gb + 2) hgb2 [.slice none 0 0, .int .i64 0, .int .i64 0, .int .i64 0, .int .i64 0] 0 _ (setN_below (gb + 1) hgb1 [.int .i64 k.kind, .int .i64 k.frm, .int .i64 k.to, .int .i64 k.words, .int .i64 k.refresh, .int .i64 k.lanes, .int .i64 k.depth, .int .i64 k.hold, .int .i64 k.life, .int .i64 k.rate, .int .i64 k.cap, .int .i64 (lnT k.lanes), .int .i64 (plT k.depth), .slice ra ps.length rc, .int .i64 br, .int .i64 bc, .int .i64 bt, .int .i64 bd, .int .i64 seq] 0 _ hB2.out))
    refine wp_region_lit ?_
    refine lLoad (cs := [.int .i64 k.kind, .int .i64 k.frm, .int .i64 k.to, .int .i64 k.words, .int .i64 k.refresh, .int .i64 k.lanes, .int .i64 k.depth, .int .i64 k.hold, .int .i64 k.life, .int .i64 k.rate, .int .i64 k.cap, .int .i64 (lnT k.lanes), .int .i64 (plT k.depth), .slice ra ps.length rc, .int .i64 br, .int .i64 bc, .int .i64 bt, .int .i64 bd, .int .i64 seq]) rfl rfl rfl hG2.out Try.underlying60 rfl (by kernel_rfl) ?_
    refine lPure (v := .agg #[.slice none 0 0, .int .i64 0, .int .i64 0, .int .i64 0, .int .i64 0]) rfl (by simp [go_sem]) ?_
    refine lPure (v := .int .i64 j) rfl (by simp [go_sem, Act.put]) ?_
    refine lStore (cs := [.int .i64 k.kind, .int .i64 k.frm, .int .i64 k.to, .int .i64 k.words, .int .i64 k.refresh, .int .i64 k.lanes, .int .i64 k.depth, .int .i64 k.hold, .int .i64 k.life, .int .i64 k.rate, .int .i64 k.cap, .int .i64 (lnT k.lanes), .int .i64 (plT k.depth), .slice ra ps.length rc, .int .i64 br, .int .i64 bc, .int .i64 bt, .int .i64 bd, .int .i64 seq]) rfl rfl rfl rfl hN2.out rfl (by kernel_rfl) rfl ?_
    refine lStore (cs := [.slice none 0 0, .int .i64 0, .int .i64 0, .int .i64 0, .int .i64 0]) rfl rfl rfl rfl (setN_other (b := gb + 1) (by omega) [.int .i64 k.kind, .int .i64 k.frm, .int .i64 k.to, .int .i64 k.words, .int .i64 k.refresh, .int .i64 k.lanes, .int .i64 k.depth, .int .i64 k.hold, .int .i64 k.life, .int .i64 k.rate, .int .i64 k.cap, .int .i64 (lnT k.lanes), .int .i64 (plT k.depth), .slice ra ps.length rc, .int .i64 br, .int .i64 bc, .int .i64 bt, .int .i64 bd, .int .i64 seq] 0 _ hM2.out) rfl (by kernel_rfl) rfl ?_
    refine lPure (v := .int .i64 j) rfl (by simp [go_sem, Act.put]) ?_
    go_wp2
    refine roffer_ret (gc := [.int .i64 k.kind, .int .i64 k.frm, .int .i64 k.to, .int .i64 k.words, .int .i64 k.refresh, .int .i64 k.lanes, .int .i64 k.depth, .int .i64 k.hold, .int .i64 k.life, .int .i64 k.rate, .int .i64 k.cap, .int .i64 (lnT k.lanes), .int .i64 (plT k.depth), .slice ra ps.length rc, .int .i64 br, .int .i64 bc, .int .i64 bt, .int .i64 bd, .int .i64 seq]) (mc := [.slice none 0 0, .int .i64 0, .int .i64 0, .int .i64 0, .int .i64 0]) rfl rfl rfl rfl hFN.out hFM.out rfl rfl ?_
    rw [hRe.out]
    exact ⟨_, ps, none, 0, rfl, he.out, (hq.out.below hFB.out).mono (ok' := orNew ok w) (okw' := orNew ok w) (fun b h _ => .inl h) (fun b h _ => .inl h), hpv.out, IntsAt.nil _ _, hFB.out⟩
  · subst hj0
    have hof2 := hof.out
    rw [if_neg (by simp)] at hof2
    replace hof := hid hof2
    clear hof2
    have hroomc := hid (fun w' (h : MsgsAt ok ok w' (.slice ra ps.length rc) ps) => show Calls Try.prog 56 #[.agg #[.int .i64 (lnT k.lanes), .int .i64 (plT k.depth), .slice ra ps.length rc], .int .i64 lane] w' (Rl.RoomP w' rm) from by rw [← hroom.out]; exact Rl.room_c h hsm hlnp.out.1 hlnp.out.2 lane)
    clear hjc hroom
    have x11 := hG2.out.cell 11
    have x12 := hG2.out.cell 12
    have x13 := hG2.out.cell 13
    have xl := hG2.out.lt
    have xf := fun o => hG2.out.frozen o
    simp only [encGt, zeroG, zeroM, List.getElem?_cons_zero, List.getElem?_cons_succ] at x11 x12 x13
    by_cases hr0 : rm = 0
    · have hRe := hof.out
      rw [if_pos hr0] at hRe
      replace hRe := hid hRe
      subst hr0
      clear htc
      go_upto_region 5 with (first | (go_at_call 56; (with_reducible refine (hroomc.out _ (hq.out.below hB2.out)).mono ?_); rintro e w3 ⟨rfl, hb⟩; have hG3 := hid (hG2.out.below hb); have hN3 := hid (hN2.out.below hb); have hM3 := hid (hM2.out.below hb); have hB3 := hid (Below.next hB2.out hb hB2.out.size); clear hb hG2 hN2 hM2 hB2))
      have hFN := hid (setN_other (b := gb + 2) (by omega) [.slice none 0 0, .int .i64 0, .int .i64 0, .int .i64 0, .int .i64 0] 0 _ (setN_pts0 hN3.out [.int .i64 k.kind, .int .i64 k.frm, .int .i64 k.to, .int .i64 k.words, .int .i64 k.refresh, .int .i64 k.lanes, .int .i64 k.depth, .int .i64 k.hold, .int .i64 k.life, .int .i64 k.rate, .int .i64 k.cap, .int .i64 (lnT k.lanes), .int .i64 (plT k.depth), .slice ra ps.length rc, .int .i64 br, .int .i64 bc, .int .i64 bt, .int .i64 bd, .int .i64 seq] rfl))
      have hFM := hid (setN_pts0 (setN_other (b := gb + 1) (by omega) [.int .i64 k.kind, .int .i64 k.frm, .int .i64 k.to, .int .i64 k.words, .int .i64 k.refresh, .int .i64 k.lanes, .int .i64 k.depth, .int .i64 k.hold, .int .i64 k.life, .int .i64 k.rate, .int .i64 k.cap, .int .i64 (lnT k.lanes), .int .i64 (plT k.depth), .slice ra ps.length rc, .int .i64 br, .int .i64 bc, .int .i64 bt, .int .i64 bd, .int .i64 seq] 0 _ hM3.out) [.slice none 0 0, .int .i64 0, .int .i64 0, .int .i64 0, .int .i64 0] rfl)
      have hFB := hid (setN_below (gb + 2) hgb2 [.slice none 0 0, .int .i64 0, .int .i64 0, .int .i64 0, .int .i64 0] 0 _ (setN_below (gb + 1) hgb1 [.int .i64 k.kind, .int .i64 k.frm, .int .i64 k.to, .int .i64 k.words, .int .i64 k.refresh, .int .i64 k.lanes, .int .i64 k.depth, .int .i64 k.hold, .int .i64 k.life, .int .i64 k.rate, .int .i64 k.cap, .int .i64 (lnT k.lanes), .int .i64 (plT k.depth), .slice ra ps.length rc, .int .i64 br, .int .i64 bc, .int .i64 bt, .int .i64 bd, .int .i64 seq] 0 _ hB3.out))
      refine wp_region_lit ?_
      refine lLoad (cs := [.int .i64 k.kind, .int .i64 k.frm, .int .i64 k.to, .int .i64 k.words, .int .i64 k.refresh, .int .i64 k.lanes, .int .i64 k.depth, .int .i64 k.hold, .int .i64 k.life, .int .i64 k.rate, .int .i64 k.cap, .int .i64 (lnT k.lanes), .int .i64 (plT k.depth), .slice ra ps.length rc, .int .i64 br, .int .i64 bc, .int .i64 bt, .int .i64 bd, .int .i64 seq]) rfl rfl rfl hG3.out Try.underlying60 rfl (by kernel_rfl) ?_
      refine lPure (v := .agg #[.slice none 0 0, .int .i64 0, .int .i64 0, .int .i64 0, .int .i64 0]) rfl (by simp [go_sem]) ?_
      refine lStore (cs := [.int .i64 k.kind, .int .i64 k.frm, .int .i64 k.to, .int .i64 k.words, .int .i64 k.refresh, .int .i64 k.lanes, .int .i64 k.depth, .int .i64 k.hold, .int .i64 k.life, .int .i64 k.rate, .int .i64 k.cap, .int .i64 (lnT k.lanes), .int .i64 (plT k.depth), .slice ra ps.length rc, .int .i64 br, .int .i64 bc, .int .i64 bt, .int .i64 bd, .int .i64 seq]) rfl rfl rfl rfl hN3.out rfl (by kernel_rfl) rfl ?_
      refine lStore (cs := [.slice none 0 0, .int .i64 0, .int .i64 0, .int .i64 0, .int .i64 0]) rfl rfl rfl rfl (setN_other (b := gb + 1) (by omega) [.int .i64 k.kind, .int .i64 k.frm, .int .i64 k.to, .int .i64 k.words, .int .i64 k.refresh, .int .i64 k.lanes, .int .i64 k.depth, .int .i64 k.hold, .int .i64 k.life, .int .i64 k.rate, .int .i64 k.cap, .int .i64 (lnT k.lanes), .int .i64 (plT k.depth), .slice ra ps.length rc, .int .i64 br, .int .i64 bc, .int .i64 bt, .int .i64 bd, .int .i64 seq] 0 _ hM3.out) rfl (by kernel_rfl) rfl ?_
      refine lPure (v := .int .i64 2) rfl (by simp [go_sem, Act.put]) ?_
      go_wp2
      refine roffer_ret (gc := [.int .i64 k.kind, .int .i64 k.frm, .int .i64 k.to, .int .i64 k.words, .int .i64 k.refresh, .int .i64 k.lanes, .int .i64 k.depth, .int .i64 k.hold, .int .i64 k.life, .int .i64 k.rate, .int .i64 k.cap, .int .i64 (lnT k.lanes), .int .i64 (plT k.depth), .slice ra ps.length rc, .int .i64 br, .int .i64 bc, .int .i64 bt, .int .i64 bd, .int .i64 seq]) (mc := [.slice none 0 0, .int .i64 0, .int .i64 0, .int .i64 0, .int .i64 0]) rfl rfl rfl rfl hFN.out hFM.out rfl rfl ?_
      rw [hRe.out]
      exact ⟨_, ps, none, 0, rfl, he.out, (hq.out.below hFB.out).mono (ok' := orNew ok w) (okw' := orNew ok w) (fun b h _ => .inl h) (fun b h _ => .inl h), hpv.out, IntsAt.nil _ _, hFB.out⟩
    have hof2 := hof.out
    rw [if_neg hr0] at hof2
    replace hof := hid hof2
    clear hof2
    have r0 : (rm == 0) = false := by simpa using hr0
    replace hr0 := hid hr0
    go_upto_region 6 with (first | (go_at_call 56; (with_reducible refine (hroomc.out _ (hq.out.below hB2.out)).mono ?_); rintro e w3 ⟨rfl, hb⟩; have hG3 := hid (hG2.out.below hb); have hN3 := hid (hN2.out.below hb); have hM3 := hid (hM2.out.below hb); have hB3 := hid (Below.next hB2.out hb hB2.out.size); clear hb hG2 hN2 hM2 hB2))
    clear x11 x12 x13 xl xf hroomc
    have x14 := hG3.out.cell 14
    have x15 := hG3.out.cell 15
    have x16 := hG3.out.cell 16
    have x17 := hG3.out.cell 17
    have xl := hG3.out.lt
    have xf := fun o => hG3.out.frozen o
    simp only [encGt, zeroG, zeroM, List.getElem?_cons_zero, List.getElem?_cons_succ] at x14 x15 x16 x17
    go_upto_region 7 with (first | (go_at_call 57; (with_reducible refine (htc.out _).mono ?_); rintro e w4 ⟨rfl, hb⟩; have hG4 := hid (hG3.out.below hb); have hN4 := hid (hN3.out.below hb); have hM4 := hid (hM3.out.below hb); have hB4 := hid (Below.next hB3.out hb hB3.out.size); clear hb hG3 hN3 hM3 hB3))
    clear x14 x15 x16 x17 xl xf htc
    have hbb3 : gb + 3 ≤ w4.heap.size := hM4.out.lt
    have hK5 := hid (pts.newA w4 #[.int .i64 qr, .int .i64 qc, .int .i64 qt, .int .i64 qd] 58)
    have hG5 := hid (hG4.out.alloc (.cells #[.int .i64 qr, .int .i64 qc, .int .i64 qt, .int .i64 qd] 58))
    have hN5 := hid (hN4.out.alloc (.cells #[.int .i64 qr, .int .i64 qc, .int .i64 qt, .int .i64 qd] 58))
    have hM5 := hid (hM4.out.alloc (.cells #[.int .i64 qr, .int .i64 qc, .int .i64 qt, .int .i64 qd] 58))
    have hB5 := hid (hB4.out.alloc hB4.out.size (.cells #[.int .i64 qr, .int .i64 qc, .int .i64 qt, .int .i64 qd] 58))
    clear hG4 hN4 hM4 hB4
    generalize w4.alloc (.cells #[.int .i64 qr, .int .i64 qc, .int .i64 qt, .int .i64 qd] 58) = w5 at hK5 hG5 hN5 hM5 hB5 ⊢
    generalize w4.heap.size = bb at hK5 hbb3 ⊢
    have y0 := hK5.out.cell 0
    have y1 := hK5.out.cell 1
    have y2 := hK5.out.cell 2
    have y3 := hK5.out.cell 3
    have yl := hK5.out.lt
    have yf := fun o => hK5.out.frozen o
    simp only [encGt, zeroG, zeroM, List.getElem?_cons_zero, List.getElem?_cons_succ] at y0 y1 y2 y3
    have x14 := hG5.out.cell 14
    have x15 := hG5.out.cell 15
    have x16 := hG5.out.cell 16
    have x17 := hG5.out.cell 17
    have xl := hG5.out.lt
    have xf := fun o => hG5.out.frozen o
    simp only [encGt, zeroG, zeroM, List.getElem?_cons_zero, List.getElem?_cons_succ] at x14 x15 x16 x17
    go_upto_region 8 with fail
    clear y0 y1 y2 y3 yl yf x14 x15 x16 x17 xl xf hK5
    change Code.wp _ _ _ _ (setN w5 gb 14 [.int .i64 qr, .int .i64 qc, .int .i64 qt, .int .i64 qd])
    have hG6 := hid (show pts (setN w5 gb 14 [.int .i64 qr, .int .i64 qc, .int .i64 qt, .int .i64 qd]) gb [.int .i64 k.kind, .int .i64 k.frm, .int .i64 k.to, .int .i64 k.words, .int .i64 k.refresh, .int .i64 k.lanes, .int .i64 k.depth, .int .i64 k.hold, .int .i64 k.life, .int .i64 k.rate, .int .i64 k.cap, .int .i64 (lnT k.lanes), .int .i64 (plT k.depth), .slice ra ps.length rc, .int .i64 qr, .int .i64 qc, .int .i64 qt, .int .i64 qd, .int .i64 seq] 60 from ((((hG5.out.set 14 (.int .i64 qr)).set 15 (.int .i64 qc)).set 16 (.int .i64 qt)).set 17 (.int .i64 qd)))
    have hN6 := hid (setN_other (b := gb) (by omega) [.int .i64 qr, .int .i64 qc, .int .i64 qt, .int .i64 qd] 14 _ hN5.out)
    have hM6 := hid (setN_other (b := gb) (by omega) [.int .i64 qr, .int .i64 qc, .int .i64 qt, .int .i64 qd] 14 _ hM5.out)
    have hB6 := hid (setN_below gb hgb0 [.int .i64 qr, .int .i64 qc, .int .i64 qt, .int .i64 qd] 14 _ hB5.out)
    clear hG5 hN5 hM5 hB5
    generalize setN w5 gb 14 [.int .i64 qr, .int .i64 qc, .int .i64 qt, .int .i64 qd] = w6 at hG6 hN6 hM6 hB6 ⊢
    have hqb2 := hqb.out
    have hf2 := hf.out
    have hof2 := hof.out
    by_cases ht : b1.tokens = 0
    · rw [if_pos ht] at hqb2 hof2
      have hRe := hid (show R = (⟨k, ms, ⟨qr, qc, qt, qd⟩, seq⟩, zeroMsg, 2) from by rw [hof2, hqb2])
      obtain rfl : f = false := by rw [← hf2]; simpa using ht
      clear hqb2 hf2 hof2 ht
      go_upto_region 9 with fail
      have hFN := hid (setN_other (b := gb + 2) (by omega) [.slice none 0 0, .int .i64 0, .int .i64 0, .int .i64 0, .int .i64 0] 0 _ (setN_pts0 hN6.out [.int .i64 k.kind, .int .i64 k.frm, .int .i64 k.to, .int .i64 k.words, .int .i64 k.refresh, .int .i64 k.lanes, .int .i64 k.depth, .int .i64 k.hold, .int .i64 k.life, .int .i64 k.rate, .int .i64 k.cap, .int .i64 (lnT k.lanes), .int .i64 (plT k.depth), .slice ra ps.length rc, .int .i64 qr, .int .i64 qc, .int .i64 qt, .int .i64 qd, .int .i64 seq] rfl))
      have hFM := hid (setN_pts0 (setN_other (b := gb + 1) (by omega) [.int .i64 k.kind, .int .i64 k.frm, .int .i64 k.to, .int .i64 k.words, .int .i64 k.refresh, .int .i64 k.lanes, .int .i64 k.depth, .int .i64 k.hold, .int .i64 k.life, .int .i64 k.rate, .int .i64 k.cap, .int .i64 (lnT k.lanes), .int .i64 (plT k.depth), .slice ra ps.length rc, .int .i64 qr, .int .i64 qc, .int .i64 qt, .int .i64 qd, .int .i64 seq] 0 _ hM6.out) [.slice none 0 0, .int .i64 0, .int .i64 0, .int .i64 0, .int .i64 0] rfl)
      have hFB := hid (setN_below (gb + 2) hgb2 [.slice none 0 0, .int .i64 0, .int .i64 0, .int .i64 0, .int .i64 0] 0 _ (setN_below (gb + 1) hgb1 [.int .i64 k.kind, .int .i64 k.frm, .int .i64 k.to, .int .i64 k.words, .int .i64 k.refresh, .int .i64 k.lanes, .int .i64 k.depth, .int .i64 k.hold, .int .i64 k.life, .int .i64 k.rate, .int .i64 k.cap, .int .i64 (lnT k.lanes), .int .i64 (plT k.depth), .slice ra ps.length rc, .int .i64 qr, .int .i64 qc, .int .i64 qt, .int .i64 qd, .int .i64 seq] 0 _ hB6.out))
      refine wp_region_lit ?_
      refine lLoad (cs := [.int .i64 k.kind, .int .i64 k.frm, .int .i64 k.to, .int .i64 k.words, .int .i64 k.refresh, .int .i64 k.lanes, .int .i64 k.depth, .int .i64 k.hold, .int .i64 k.life, .int .i64 k.rate, .int .i64 k.cap, .int .i64 (lnT k.lanes), .int .i64 (plT k.depth), .slice ra ps.length rc, .int .i64 qr, .int .i64 qc, .int .i64 qt, .int .i64 qd, .int .i64 seq]) rfl rfl rfl hG6.out Try.underlying60 rfl (by kernel_rfl) ?_
      refine lPure (v := .agg #[.slice none 0 0, .int .i64 0, .int .i64 0, .int .i64 0, .int .i64 0]) rfl (by simp [go_sem]) ?_
      refine lStore (cs := [.int .i64 k.kind, .int .i64 k.frm, .int .i64 k.to, .int .i64 k.words, .int .i64 k.refresh, .int .i64 k.lanes, .int .i64 k.depth, .int .i64 k.hold, .int .i64 k.life, .int .i64 k.rate, .int .i64 k.cap, .int .i64 (lnT k.lanes), .int .i64 (plT k.depth), .slice ra ps.length rc, .int .i64 qr, .int .i64 qc, .int .i64 qt, .int .i64 qd, .int .i64 seq]) rfl rfl rfl rfl hN6.out rfl (by kernel_rfl) rfl ?_
      refine lStore (cs := [.slice none 0 0, .int .i64 0, .int .i64 0, .int .i64 0, .int .i64 0]) rfl rfl rfl rfl (setN_other (b := gb + 1) (by omega) [.int .i64 k.kind, .int .i64 k.frm, .int .i64 k.to, .int .i64 k.words, .int .i64 k.refresh, .int .i64 k.lanes, .int .i64 k.depth, .int .i64 k.hold, .int .i64 k.life, .int .i64 k.rate, .int .i64 k.cap, .int .i64 (lnT k.lanes), .int .i64 (plT k.depth), .slice ra ps.length rc, .int .i64 qr, .int .i64 qc, .int .i64 qt, .int .i64 qd, .int .i64 seq] 0 _ hM6.out) rfl (by kernel_rfl) rfl ?_
      refine lPure (v := .int .i64 2) rfl (by simp [go_sem, Act.put]) ?_
      go_wp2
      refine roffer_ret (gc := [.int .i64 k.kind, .int .i64 k.frm, .int .i64 k.to, .int .i64 k.words, .int .i64 k.refresh, .int .i64 k.lanes, .int .i64 k.depth, .int .i64 k.hold, .int .i64 k.life, .int .i64 k.rate, .int .i64 k.cap, .int .i64 (lnT k.lanes), .int .i64 (plT k.depth), .slice ra ps.length rc, .int .i64 qr, .int .i64 qc, .int .i64 qt, .int .i64 qd, .int .i64 seq]) (mc := [.slice none 0 0, .int .i64 0, .int .i64 0, .int .i64 0, .int .i64 0]) rfl rfl rfl rfl hFN.out hFM.out rfl rfl ?_
      rw [hRe.out]
      exact ⟨_, ps, none, 0, rfl, he.out, (hq.out.below hFB.out).mono (ok' := orNew ok w) (okw' := orNew ok w) (fun b h _ => .inl h) (fun b h _ => .inl h), hpv.out, IntsAt.nil _ _, hFB.out⟩
    rw [if_neg ht] at hqb2 hof2
    have hRe := hid (show R = (⟨k, ms ++ [⟨ws, lane, cutT now, addT now k.life, seq + 1⟩], ⟨qr, qc, qt, qd⟩, seq + 1⟩, ⟨ws, lane, cutT now, addT now k.life, seq + 1⟩, 0) from by rw [hof2, hqb2])
    obtain rfl : f = true := by rw [← hf2]; simpa using ht
    clear hqb2 hf2 hof2 ht hqb hf hof
    obtain ⟨hs0, hs1⟩ := hseq
    have x18 := hG6.out.cell 18
    have xl := hG6.out.lt
    have xf := fun o => hG6.out.frozen o
    simp only [encGt, zeroG, zeroM, List.getElem?_cons_zero, List.getElem?_cons_succ] at x18
    go_upto_region 12 with fail
    clear x18 xl xf
    have hG7 := hid (show pts (w6.setCell ⟨gb, 18, none⟩ (.int .i64 (seq + 1))) gb [.int .i64 k.kind, .int .i64 k.frm, .int .i64 k.to, .int .i64 k.words, .int .i64 k.refresh, .int .i64 k.lanes, .int .i64 k.depth, .int .i64 k.hold, .int .i64 k.life, .int .i64 k.rate, .int .i64 k.cap, .int .i64 (lnT k.lanes), .int .i64 (plT k.depth), .slice ra ps.length rc, .int .i64 qr, .int .i64 qc, .int .i64 qt, .int .i64 qd, .int .i64 (seq + 1)] 60 from hG6.out.set 18 (.int .i64 (seq + 1)))
    have hN7 := hid (hN6.out.set_ne (a := ⟨gb, 18, none⟩) (by simp) (.int .i64 (seq + 1)))
    have hM7 := hid (hM6.out.set_ne (a := ⟨gb, 18, none⟩) (by simp) (.int .i64 (seq + 1)))
    have hB7 := hid (hB6.out.setCell (p := ⟨gb, 18, none⟩) hgb0 (.int .i64 (seq + 1)))
    clear hG6 hN6 hM6 hB6
    generalize w6.setCell ⟨gb, 18, none⟩ (.int .i64 (seq + 1)) = W7 at hG7 hN7 hM7 hB7 ⊢
    have hw7 := hid (hws.out.below hB7.out)
    have hl := hid hl
    -- REG empennage/empennageref12.Offer|12|rOffer.12
    refine region_tab 15 [Sp.eq (.slice none 0 0), Sp.eq (.slice wa ws.length wc), ⟨fun v gs u => COut W7.heap.size ws gs u v, fun v gs w gs' w' h hs => h.st hs⟩, Sp.eq (.int .i64 lane), Sp.eq (.int .i64 now), Sp.eq (.int .i64 (cutT now)), Sp.eq (.int .i64 now), Sp.eq (.pointer (some ⟨gb, 0, none⟩)), Sp.eq (.pointer (some ⟨gb, 8, none⟩)), Sp.eq (.int .i64 k.life), Sp.eq (.int .i64 (addT now k.life)), Sp.eq (.pointer (some ⟨gb, 18, none⟩)), Sp.eq (.int .i64 (seq + 1)), ⟨fun v gs u => MOut W7.heap.size ⟨ws, lane, cutT now, addT now k.life, seq + 1⟩ gs u v, fun v gs w gs' w' h hs => h.st hs⟩, Sp.box 37 [.slice none 0 0, .int .i64 0, .int .i64 0, .int .i64 0, .int .i64 0]] (fun _ _ _ _ _ h => h) (by kernel_rfl) (by kernel_rfl) ⟨?_, ?_, ?_, ?_, ?_, ?_, ?_, ?_, ?_, ?_, ?_, ?_, ?_, ?_, ?_, trivial⟩ ?_
    · intro ac gs u hb hg h
      have e18 : ac.tmps[18]?.getD undef = .slice none 0 0 := h.inm 18 rfl rfl
      refine opFree rfl ?_
      exact relMoveT _ rfl e18 (okP hg rfl)
    · intro ac gs u hb hg h
      have e3 : ac.tmps[3]?.getD undef = .slice wa ws.length wc := h.inm 3 rfl rfl
      refine opFree rfl ?_
      exact relMoveT _ rfl e3 (okP hg rfl)
    · intro ac gs u hb hg h
      have e57 : ac.tmps[57]?.getD undef = .slice none 0 0 := h.tm 0 57 rfl rfl
      have e58 : ac.tmps[58]?.getD undef = .slice wa ws.length wc := h.tm 1 58 rfl rfl
      refine opFree rfl ?_
      obtain ⟨v', w', hr, hb', hi⟩ := run_cloneInts (P := Try.prog) (ty := 24) elInt none (hw7.out.below hb) hl.out
      exact relRun (v := v') (w' := w') (xAppend rfl e57 e58 hr) (okB hg hb' (COut.of hb hg hi))
    · intro ac gs u hb hg h
      have e2 : ac.tmps[2]?.getD undef = .int .i64 lane := h.inm 2 rfl rfl
      refine opFree rfl ?_
      exact relMoveT _ rfl e2 (okP hg rfl)
    · intro ac gs u hb hg h
      have e4 : ac.tmps[4]?.getD undef = .int .i64 now := h.inm 4 rfl rfl
      refine opFree rfl ?_
      exact relMoveT _ rfl e4 (okP hg rfl)
    · intro ac gs u hb hg h
      have e61 : ac.tmps[61]?.getD undef = .int .i64 now := h.tm 4 61 rfl rfl
      refine opFree rfl ?_
      refine relCall (f := _) (args := #[.int .i64 now]) (by simp [go_sem, e61]; rfl) ?_
      refine (rcut_c _ _).mono ?_
      rintro e w' ⟨rfl, rfl⟩
      exact ⟨_, rfl, okP hg rfl⟩
    · intro ac gs u hb hg h
      have e4 : ac.tmps[4]?.getD undef = .int .i64 now := h.inm 4 rfl rfl
      refine opFree rfl ?_
      exact relMoveT _ rfl e4 (okP hg rfl)
    · intro ac gs u hb hg h
      have e6 : ac.tmps[6]?.getD undef = .pointer (some ⟨gb, 0, none⟩) := h.inm 6 rfl rfl
      refine opFree rfl ?_
      exact relRun (v := .pointer (some ⟨gb, 0, none⟩)) (w' := u) (by simp [go_sem, e6]) (okP hg rfl)
    · intro ac gs u hb hg h
      have e64 : ac.tmps[64]?.getD undef = .pointer (some ⟨gb, 0, none⟩) := h.tm 7 64 rfl rfl
      refine opFree rfl ?_
      exact relRun (v := .pointer (some ⟨gb, 8, none⟩)) (w' := u) (by simp [go_sem, e64]) (okP hg rfl)
    · intro ac gs u hb hg h
      have e65 : ac.tmps[65]?.getD undef = .pointer (some ⟨gb, 8, none⟩) := h.tm 8 65 rfl rfl
      refine opFree rfl ?_
      exact relRun (v := .int .i64 k.life) (w' := u) (by simp [go_sem, e65, ((hG7.out.below hb).cell 8)]) (okP hg rfl)
    · intro ac gs u hb hg h
      have e63 : ac.tmps[63]?.getD undef = .int .i64 now := h.tm 6 63 rfl rfl
      have e66 : ac.tmps[66]?.getD undef = .int .i64 k.life := h.tm 9 66 rfl rfl
      refine opFree rfl ?_
      refine relCall (f := _) (args := #[.int .i64 now, .int .i64 k.life]) (by simp [go_sem, e63, e66]; rfl) ?_
      refine (radd_c _ _ _).mono ?_
      rintro e w' ⟨rfl, rfl⟩
      exact ⟨_, rfl, okP hg rfl⟩
    · intro ac gs u hb hg h
      have e6 : ac.tmps[6]?.getD undef = .pointer (some ⟨gb, 0, none⟩) := h.inm 6 rfl rfl
      refine opFree rfl ?_
      exact relRun (v := .pointer (some ⟨gb, 18, none⟩)) (w' := u) (by simp [go_sem, e6]) (okP hg rfl)
    · intro ac gs u hb hg h
      have e68 : ac.tmps[68]?.getD undef = .pointer (some ⟨gb, 18, none⟩) := h.tm 11 68 rfl rfl
      refine opFree rfl ?_
      exact relRun (v := .int .i64 (seq + 1)) (w' := u) (by simp [go_sem, e68, ((hG7.out.below hb).cell 18)]) (okP hg rfl)
    · intro ac gs u hb hg h
      have e59 := h.tm 2 59 rfl rfl
      have e60 : ac.tmps[60]?.getD undef = .int .i64 lane := h.tm 3 60 rfl rfl
      have e62 : ac.tmps[62]?.getD undef = .int .i64 (cutT now) := h.tm 5 62 rfl rfl
      have e67 : ac.tmps[67]?.getD undef = .int .i64 (addT now k.life) := h.tm 10 67 rfl rfl
      have e69 : ac.tmps[69]?.getD undef = .int .i64 (seq + 1) := h.tm 12 69 rfl rfl
      refine opFree rfl ?_
      obtain ⟨a1, c1, h1, h2⟩ := e59
      exact relRun (v := .agg #[.slice a1 ws.length c1, .int .i64 lane, .int .i64 (cutT now), .int .i64 (addT now k.life), .int .i64 (seq + 1)]) (w' := u) (by simp [go_sem, h1, e60, e62, e67, e69]) (okP hg ⟨a1, c1, rfl, h2⟩)
    · intro ac gs u hb hg h
      refine opFree rfl ?_
      exact relRun (v := .pointer (some ⟨u.heap.size, 0, none⟩)) (w' := u.alloc (.cells #[.slice none 0 0, .int .i64 0, .int .i64 0, .int .i64 0, .int .i64 0] 37)) (by simp [go_sem]) (okA _ hg ⟨_, rfl, List.mem_cons_self, pts.newA u _ _⟩)
    intro vs gs u hb hg hr
    have r0 : vs 0 = .slice none 0 0 := hr 0 (by decide)
    have r1 : vs 1 = .slice wa ws.length wc := hr 1 (by decide)
    have r2 := hr 2 (by decide)
    have r3 : vs 3 = .int .i64 lane := hr 3 (by decide)
    have r4 : vs 4 = .int .i64 now := hr 4 (by decide)
    have r5 : vs 5 = .int .i64 (cutT now) := hr 5 (by decide)
    have r6 : vs 6 = .int .i64 now := hr 6 (by decide)
    have r7 : vs 7 = .pointer (some ⟨gb, 0, none⟩) := hr 7 (by decide)
    have r8 : vs 8 = .pointer (some ⟨gb, 8, none⟩) := hr 8 (by decide)
    have r9 : vs 9 = .int .i64 k.life := hr 9 (by decide)
    have r10 : vs 10 = .int .i64 (addT now k.life) := hr 10 (by decide)
    have r11 : vs 11 = .pointer (some ⟨gb, 18, none⟩) := hr 11 (by decide)
    have r12 : vs 12 = .int .i64 (seq + 1) := hr 12 (by decide)
    have r13 := hr 13 (by decide)
    have r14 := hr 14 (by decide)
    obtain ⟨b2, e19, hb2, hbx⟩ := r14
    obtain ⟨a1, c1, e70, hi1⟩ := r13
    simp only at e70
    simp only [List.take_succ_cons, List.take_zero, List.drop_succ_cons, List.drop_zero, putOps, r0, r1, r3, r4, r5, r6, r7, r8, r9, r10, r11, r12, e19, e70]
    simp only [Act.put, List.setIfInBounds_toArray, List.set_cons_succ, List.set_cons_zero]
    clear hr r0 r1 r3 r4 r5 r6 r7 r8 r9 r10 r11 r12 e19 e70
    -- GER
    have hnb0 := (hg b2 hb2).1
    have h7l : gb + 3 ≤ W7.heap.size := hM7.out.lt
    have hbx2 := hid hbx
    have y0 := hbx2.out.cell 0
    have y1 := hbx2.out.cell 1
    have y2 := hbx2.out.cell 2
    have y3 := hbx2.out.cell 3
    have y4 := hbx2.out.cell 4
    have yl := hbx2.out.lt
    have yf := fun o => hbx2.out.frozen o
    simp only [encGt, zeroG, zeroM, List.getElem?_cons_zero, List.getElem?_cons_succ] at y0 y1 y2 y3 y4
    go_upto_region 13 with fail
    clear y0 y1 y2 y3 y4 yl yf hbx
    change Code.wp _ _ _ _ (setN u b2 0 [.slice a1 ws.length c1, .int .i64 lane, .int .i64 (cutT now), .int .i64 (addT now k.life), .int .i64 (seq + 1)])
    have hC8 := hid (setN_pts0 hbx2.out [.slice a1 ws.length c1, .int .i64 lane, .int .i64 (cutT now), .int .i64 (addT now k.life), .int .i64 (seq + 1)] rfl)
    have hG8 := hid (setN_other (b := b2) (by omega) [.slice a1 ws.length c1, .int .i64 lane, .int .i64 (cutT now), .int .i64 (addT now k.life), .int .i64 (seq + 1)] 0 _ (hG7.out.below hb))
    have hN8 := hid (setN_other (b := b2) (by omega) [.slice a1 ws.length c1, .int .i64 lane, .int .i64 (cutT now), .int .i64 (addT now k.life), .int .i64 (seq + 1)] 0 _ (hN7.out.below hb))
    have hM8 := hid (setN_other (b := b2) (by omega) [.slice a1 ws.length c1, .int .i64 lane, .int .i64 (cutT now), .int .i64 (addT now k.life), .int .i64 (seq + 1)] 0 _ (hM7.out.below hb))
    have hB8 := hid (setN_below b2 (Nat.le_trans hB7.out.size hnb0) [.slice a1 ws.length c1, .int .i64 lane, .int .i64 (cutT now), .int .i64 (addT now k.life), .int .i64 (seq + 1)] 0 _ (Below.next hB7.out hb hB7.out.size))
    have hi8 := hid ((IntsAt.setN hi1 (b := b2) (fun hh => hh.2 hb2) [.slice a1 ws.length c1, .int .i64 lane, .int .i64 (cutT now), .int .i64 (addT now k.life), .int .i64 (seq + 1)] 0).mono (ok' := fun b => gb + 3 ≤ b ∧ b ≠ b2) (fun b hh _ => ⟨by have := hh.1; omega, fun e => hh.2 (e ▸ hb2)⟩))
    clear r2 hi1 hbx2 hG7 hN7 hM7 hB7 hw7 hg
    generalize setN u b2 0 [.slice a1 ws.length c1, .int .i64 lane, .int .i64 (cutT now), .int .i64 (addT now k.life), .int .i64 (seq + 1)] = W8 at hC8 hG8 hN8 hM8 hB8 hi8 ⊢
    replace hnb0 : gb + 3 ≤ b2 := by omega
    have hQ8 := hid (((hq.out.mono (ok' := fun b => ok b ∧ b < w.heap.size) (okw' := fun b => ok b ∧ b < w.heap.size) (fun b h hlt => ⟨h, hlt⟩) (fun b h hlt => ⟨h, hlt⟩)).below hB8.out).mono (ok' := fun b => (ok b ∧ b < w.heap.size) ∨ (gb + 3 ≤ b ∧ b ≠ b2)) (okw' := fun b => (ok b ∧ b < w.heap.size) ∨ (gb + 3 ≤ b ∧ b ≠ b2)) (fun b h _ => .inl h) (fun b h _ => .inl h))
    have hput := Rl.put_any (m := ⟨ws, lane, cutT now, addT now k.life, seq + 1⟩) hQ8.out hpv.out (hi8.out.mono (fun b h _ => .inr h)) he.out hsm hlnp.out.1 hlnp.out.2
    have his : isT (lnT k.lanes) lane = true := by
      cases hi : isT (lnT k.lanes) lane with
      | true => rfl
      | false => exact absurd (by rw [← hrm.out]; unfold roomT; rw [hi]; rfl) hr0.out
    have hr1 : ¬ roomT (lnT k.lanes) (plT k.depth) ms lane = 0 := by rw [hrm.out]; exact hr0.out
    have hpe : putE (lnT k.lanes) (plT k.depth) ms ⟨ws, lane, cutT now, addT now k.life, seq + 1⟩ = 0 := by unfold putE; rw [if_pos his, if_neg hr1]
    have hpl : putL (lnT k.lanes) (plT k.depth) ms ⟨ws, lane, cutT now, addT now k.life, seq + 1⟩ = ms ++ [⟨ws, lane, cutT now, addT now k.life, seq + 1⟩] := by unfold putL; rw [if_pos his, if_neg hr1]
    unfold Rl.PutAny at hput
    simp only at hput
    rw [hpe, hpl] at hput
    replace hput := hid hput
    clear hpe hpl his hr1
    have y0 := hC8.out.cell 0
    have y1 := hC8.out.cell 1
    have y2 := hC8.out.cell 2
    have y3 := hC8.out.cell 3
    have y4 := hC8.out.cell 4
    have yl := hC8.out.lt
    have yf := fun o => hC8.out.frozen o
    simp only [encGt, zeroG, zeroM, List.getElem?_cons_zero, List.getElem?_cons_succ] at y0 y1 y2 y3 y4
    have x11 := hG8.out.cell 11
    have x12 := hG8.out.cell 12
    have x13 := hG8.out.cell 13
    have xl := hG8.out.lt
    have xf := fun o => hG8.out.frozen o
    simp only [encGt, zeroG, zeroM, List.getElem?_cons_zero, List.getElem?_cons_succ] at x11 x12 x13
    go_upto_region 14 with (first | (go_at_call 59; (with_reducible refine (hput.out).mono ?_); rintro e w9 ⟨rv', ps', rfl, hps, hQ, hPl, hb9⟩; obtain ⟨ra', rc', rfl⟩ := hQ.shape; have hps' := hid hps; have hPl' := hid hPl; have hQ9 := hid (hQ.mono (ok' := fun b => ((ok b ∧ b < w.heap.size) ∨ (gb + 3 ≤ b ∧ b ≠ b2)) ∧ b < w9.heap.size) (okw' := fun b => ((ok b ∧ b < w.heap.size) ∨ (gb + 3 ≤ b ∧ b ≠ b2)) ∧ b < w9.heap.size) (fun b h hlt => ⟨by rcases h with h | h; exact h; exact .inr (by have := hC8.out.lt; have := hM8.out.lt; omega), hlt⟩) (fun b h hlt => ⟨h, hlt⟩)); have hC9 := hid (hC8.out.below hb9); have hG9 := hid (hG8.out.below hb9); have hN9 := hid (hN8.out.below hb9); have hM9 := hid (hM8.out.below hb9); have hB9 := hid (Below.next hB8.out hb9 hB8.out.size); have hi9 := hid (hi8.out.below hb9); clear hps hQ hPl hb9 hC8 hG8 hN8 hM8 hB8 hi8))
    clear y0 y1 y2 y3 y4 yl yf x11 x12 x13 xl xf hput hQ8
    have h9l : gb + 3 ≤ w9.heap.size := hM9.out.lt
    have hK10 := hid (pts.newA w9 #[.int .i64 (lnT k.lanes), .int .i64 (plT k.depth), .slice ra' ps'.length rc'] 56)
    have hC10 := hid (hC9.out.alloc (.cells #[.int .i64 (lnT k.lanes), .int .i64 (plT k.depth), .slice ra' ps'.length rc'] 56))
    have hG10 := hid (hG9.out.alloc (.cells #[.int .i64 (lnT k.lanes), .int .i64 (plT k.depth), .slice ra' ps'.length rc'] 56))
    have hN10 := hid (hN9.out.alloc (.cells #[.int .i64 (lnT k.lanes), .int .i64 (plT k.depth), .slice ra' ps'.length rc'] 56))
    have hM10 := hid (hM9.out.alloc (.cells #[.int .i64 (lnT k.lanes), .int .i64 (plT k.depth), .slice ra' ps'.length rc'] 56))
    have hB10 := hid (hB9.out.alloc hB9.out.size (.cells #[.int .i64 (lnT k.lanes), .int .i64 (plT k.depth), .slice ra' ps'.length rc'] 56))
    have hQ10 := hid (hQ9.out.below ((Below.refl _ _).alloc (Nat.le_refl _) (.cells #[.int .i64 (lnT k.lanes), .int .i64 (plT k.depth), .slice ra' ps'.length rc'] 56)))
    have hi10 := hid (hi9.out.below ((Below.refl _ _).alloc (Nat.le_refl _) (.cells #[.int .i64 (lnT k.lanes), .int .i64 (plT k.depth), .slice ra' ps'.length rc'] 56)))
    clear hC9 hG9 hN9 hM9 hB9 hQ9 hi9
    generalize w9.alloc (.cells #[.int .i64 (lnT k.lanes), .int .i64 (plT k.depth), .slice ra' ps'.length rc'] 56) = w10 at hK10 hC10 hG10 hN10 hM10 hB10 hQ10 hi10 ⊢
    generalize w9.heap.size = lb at hK10 h9l hQ10 ⊢
    have y0 := hK10.out.cell 0
    have y1 := hK10.out.cell 1
    have y2 := hK10.out.cell 2
    have yl := hK10.out.lt
    have yf := fun o => hK10.out.frozen o
    simp only [encGt, zeroG, zeroM, List.getElem?_cons_zero, List.getElem?_cons_succ] at y0 y1 y2
    have x11 := hG10.out.cell 11
    have x12 := hG10.out.cell 12
    have x13 := hG10.out.cell 13
    have xl := hG10.out.lt
    have xf := fun o => hG10.out.frozen o
    simp only [encGt, zeroG, zeroM, List.getElem?_cons_zero, List.getElem?_cons_succ] at x11 x12 x13
    go_upto_region 15 with fail
    clear y0 y1 y2 yl yf x11 x12 x13 xl xf hK10
    change Code.wp _ _ _ _ (setN w10 gb 11 [.int .i64 (lnT k.lanes), .int .i64 (plT k.depth), .slice ra' ps'.length rc'])
    have hG11 := hid (show pts (setN w10 gb 11 [.int .i64 (lnT k.lanes), .int .i64 (plT k.depth), .slice ra' ps'.length rc']) gb [.int .i64 k.kind, .int .i64 k.frm, .int .i64 k.to, .int .i64 k.words, .int .i64 k.refresh, .int .i64 k.lanes, .int .i64 k.depth, .int .i64 k.hold, .int .i64 k.life, .int .i64 k.rate, .int .i64 k.cap, .int .i64 (lnT k.lanes), .int .i64 (plT k.depth), .slice ra' ps'.length rc', .int .i64 qr, .int .i64 qc, .int .i64 qt, .int .i64 qd, .int .i64 (seq + 1)] 60 from (((hG10.out.set 11 (.int .i64 (lnT k.lanes))).set 12 (.int .i64 (plT k.depth))).set 13 (.slice ra' ps'.length rc')))
    have hN11 := hid (setN_other (b := gb) (by omega) [.int .i64 (lnT k.lanes), .int .i64 (plT k.depth), .slice ra' ps'.length rc'] 11 _ hN10.out)
    have hM11 := hid (setN_other (b := gb) (by omega) [.int .i64 (lnT k.lanes), .int .i64 (plT k.depth), .slice ra' ps'.length rc'] 11 _ hM10.out)
    have hC11 := hid (setN_other (b := gb) (by omega) [.int .i64 (lnT k.lanes), .int .i64 (plT k.depth), .slice ra' ps'.length rc'] 11 _ hC10.out)
    have hB11 := hid (setN_below gb hgb0 [.int .i64 (lnT k.lanes), .int .i64 (plT k.depth), .slice ra' ps'.length rc'] 11 _ hB10.out)
    have hnok : ∀ x, gb ≤ x → x ≤ gb + 2 → ¬ (((ok x ∧ x < w.heap.size) ∨ (gb + 3 ≤ x ∧ x ≠ b2)) ∧ x < lb) := fun x h1 h2 hh => by rcases hh.1 with h | h; exact (by have := hgb.out; omega); exact (by omega)
    have hQ11 := hid (MsgsAt.setN hQ10.out (hnok gb (by omega) (by omega)) (hnok gb (by omega) (by omega)) [.int .i64 (lnT k.lanes), .int .i64 (plT k.depth), .slice ra' ps'.length rc'] 11)
    have hi11 := hid (IntsAt.setN (hi10.out.mono (ok' := fun b => gb + 3 ≤ b) (fun b h _ => h.1)) (b := gb) (by omega) [.int .i64 (lnT k.lanes), .int .i64 (plT k.depth), .slice ra' ps'.length rc'] 11)
    clear hC10 hG10 hN10 hM10 hB10 hQ10 hi10
    generalize setN w10 gb 11 [.int .i64 (lnT k.lanes), .int .i64 (plT k.depth), .slice ra' ps'.length rc'] = w11 at hC11 hG11 hN11 hM11 hB11 hQ11 hi11 ⊢
    replace hnok := hid hnok
    -- REG empennage/empennageref12.Offer|15|rOffer.15
    refine region_chg 3 (fun x => x = gb + 1) 2 (fun u => pts u (gb + 1) zeroG 60) [Sp.eq (.agg #[.int .i64 k.kind, .int .i64 k.frm, .int .i64 k.to, .int .i64 k.words, .int .i64 k.refresh, .int .i64 k.lanes, .int .i64 k.depth, .int .i64 k.hold, .int .i64 k.life, .int .i64 k.rate, .int .i64 k.cap, .int .i64 (lnT k.lanes), .int .i64 (plT k.depth), .slice ra' ps'.length rc', .int .i64 qr, .int .i64 qc, .int .i64 qt, .int .i64 qd, .int .i64 (seq + 1)]), Sp.eq (.agg #[.slice a1 ws.length c1, .int .i64 lane, .int .i64 (cutT now), .int .i64 (addT now k.life), .int .i64 (seq + 1)]), Sp.of (fun v u => pts u (gb + 1) [.int .i64 k.kind, .int .i64 k.frm, .int .i64 k.to, .int .i64 k.words, .int .i64 k.refresh, .int .i64 k.lanes, .int .i64 k.depth, .int .i64 k.hold, .int .i64 k.life, .int .i64 k.rate, .int .i64 k.cap, .int .i64 (lnT k.lanes), .int .i64 (plT k.depth), .slice ra' ps'.length rc', .int .i64 qr, .int .i64 qc, .int .i64 qt, .int .i64 qd, .int .i64 (seq + 1)] 60) (fun v w w' h hb => h.below hb)] (fun _ _ _ _ _ h => h) (by kernel_rfl) (by kernel_rfl) (hN11.out) (fun u u' h hb => h.below hb) (fun j hj => match j with | 0 => fun _ _ _ _ h _ => h | 1 => fun _ _ _ _ h _ => h | 2 => absurd rfl hj | _ + 3 => fun _ _ _ _ h _ => h) ⟨?_, ?_, ?_, trivial⟩ ?_
    · intro ac gs u hb hg hi h
      have e6 : ac.tmps[6]?.getD undef = .pointer (some ⟨gb, 0, none⟩) := h.inm 6 rfl rfl
      refine opFree rfl ?_
      exact relRun (v := .agg #[.int .i64 k.kind, .int .i64 k.frm, .int .i64 k.to, .int .i64 k.words, .int .i64 k.refresh, .int .i64 k.lanes, .int .i64 k.depth, .int .i64 k.hold, .int .i64 k.life, .int .i64 k.rate, .int .i64 k.cap, .int .i64 (lnT k.lanes), .int .i64 (plT k.depth), .slice ra' ps'.length rc', .int .i64 qr, .int .i64 qc, .int .i64 qt, .int .i64 qd, .int .i64 (seq + 1)]) (w' := u) (xLoad (cs := [.int .i64 k.kind, .int .i64 k.frm, .int .i64 k.to, .int .i64 k.words, .int .i64 k.refresh, .int .i64 k.lanes, .int .i64 k.depth, .int .i64 k.hold, .int .i64 k.life, .int .i64 k.rate, .int .i64 k.cap, .int .i64 (lnT k.lanes), .int .i64 (plT k.depth), .slice ra' ps'.length rc', .int .i64 qr, .int .i64 qc, .int .i64 qt, .int .i64 qd, .int .i64 (seq + 1)]) rfl e6 (hG11.out.chg hb (by omega)) Try.underlying60 rfl (by kernel_rfl)) (okPc rfl hg rfl)
    · intro ac gs u hb hg hi h
      have e19 : ac.tmps[19]?.getD undef = .pointer (some ⟨b2, 0, none⟩) := h.inm 19 rfl rfl
      refine opFree rfl ?_
      exact relRun (v := .agg #[.slice a1 ws.length c1, .int .i64 lane, .int .i64 (cutT now), .int .i64 (addT now k.life), .int .i64 (seq + 1)]) (w' := u) (xLoad (cs := [.slice a1 ws.length c1, .int .i64 lane, .int .i64 (cutT now), .int .i64 (addT now k.life), .int .i64 (seq + 1)]) rfl e19 (hC11.out.chg hb (by omega)) Try.underlying37 rfl (by kernel_rfl)) (okPc rfl hg rfl)
    · intro ac gs u hb hg hi h
      have e12 : ac.tmps[12]?.getD undef = .pointer (some ⟨gb + 1, 0, none⟩) := h.inm 12 rfl rfl
      have e80 : ac.tmps[80]?.getD undef = .agg #[.int .i64 k.kind, .int .i64 k.frm, .int .i64 k.to, .int .i64 k.words, .int .i64 k.refresh, .int .i64 k.lanes, .int .i64 k.depth, .int .i64 k.hold, .int .i64 k.life, .int .i64 k.rate, .int .i64 k.cap, .int .i64 (lnT k.lanes), .int .i64 (plT k.depth), .slice ra' ps'.length rc', .int .i64 qr, .int .i64 qc, .int .i64 qt, .int .i64 qd, .int .i64 (seq + 1)] := h.tm 0 80 rfl rfl
      refine opFree rfl ?_
      exact relSkip (xStore (cs := [.int .i64 k.kind, .int .i64 k.frm, .int .i64 k.to, .int .i64 k.words, .int .i64 k.refresh, .int .i64 k.lanes, .int .i64 k.depth, .int .i64 k.hold, .int .i64 k.life, .int .i64 k.rate, .int .i64 k.cap, .int .i64 (lnT k.lanes), .int .i64 (plT k.depth), .slice ra' ps'.length rc', .int .i64 qr, .int .i64 qc, .int .i64 qt, .int .i64 qd, .int .i64 (seq + 1)]) rfl e12 e80 (hi rfl) rfl (by kernel_rfl) rfl) (okC hg (setN_own _ _ _ _) (setN_pts0 (hi rfl) [.int .i64 k.kind, .int .i64 k.frm, .int .i64 k.to, .int .i64 k.words, .int .i64 k.refresh, .int .i64 k.lanes, .int .i64 k.depth, .int .i64 k.hold, .int .i64 k.life, .int .i64 k.rate, .int .i64 k.cap, .int .i64 (lnT k.lanes), .int .i64 (plT k.depth), .slice ra' ps'.length rc', .int .i64 qr, .int .i64 qc, .int .i64 qt, .int .i64 qd, .int .i64 (seq + 1)] rfl))
    intro vs gs u hb hg hr
    have r0 : vs 0 = .agg #[.int .i64 k.kind, .int .i64 k.frm, .int .i64 k.to, .int .i64 k.words, .int .i64 k.refresh, .int .i64 k.lanes, .int .i64 k.depth, .int .i64 k.hold, .int .i64 k.life, .int .i64 k.rate, .int .i64 k.cap, .int .i64 (lnT k.lanes), .int .i64 (plT k.depth), .slice ra' ps'.length rc', .int .i64 qr, .int .i64 qc, .int .i64 qt, .int .i64 qd, .int .i64 (seq + 1)] := hr 0 (by decide)
    have r1 : vs 1 = .agg #[.slice a1 ws.length c1, .int .i64 lane, .int .i64 (cutT now), .int .i64 (addT now k.life), .int .i64 (seq + 1)] := hr 1 (by decide)
    have r2 := hr 2 (by decide)
    simp only [List.take_succ_cons, List.take_zero, List.drop_succ_cons, List.drop_zero, putOps, r0, r1]
    simp only [Act.put, List.setIfInBounds_toArray, List.set_cons_succ, List.set_cons_zero]
    clear hr r0 r1
    -- GER
    have hnb0' := hnb0
    have hM12 := hM11.out.chg hb (by omega)
    have hf1 := hid r2
    have hf2 := hid (setN_pts0 hM12 [.slice a1 ws.length c1, .int .i64 lane, .int .i64 (cutT now), .int .i64 (addT now k.life), .int .i64 (seq + 1)] rfl)
    have hf3 := hid (setN_other (b := gb + 2) (by omega) [.slice a1 ws.length c1, .int .i64 lane, .int .i64 (cutT now), .int .i64 (addT now k.life), .int .i64 (seq + 1)] 0 _ r2)
    have hQ12 := hid ((hQ11.out.kept hb.size (fun c hc hlt => hb.block c hlt (fun e => by rcases hc with hc | hc <;> exact hnok.out (gb + 1) (by omega) (by omega) (e ▸ hc)))))
    have hi12 := hid (hi11.out.chg hb (fun c hc _ e => by omega))
    have hQ13 := hid (MsgsAt.setN hQ12.out (hnok.out (gb + 2) (by omega) (by omega)) (hnok.out (gb + 2) (by omega) (by omega)) [.slice a1 ws.length c1, .int .i64 lane, .int .i64 (cutT now), .int .i64 (addT now k.life), .int .i64 (seq + 1)] 0)
    have hi13 := hid (IntsAt.setN hi12.out (b := gb + 2) (by omega) [.slice a1 ws.length c1, .int .i64 lane, .int .i64 (cutT now), .int .i64 (addT now k.life), .int .i64 (seq + 1)] 0)
    have hB13 := hid (setN_below (gb + 2) hgb2 [.slice a1 ws.length c1, .int .i64 lane, .int .i64 (cutT now), .int .i64 (addT now k.life), .int .i64 (seq + 1)] 0 _ (((Chg.of_below (M := fun _ => False) hB11.out).trans hb (fun i h => .inr (by rw [h]; exact hgb1))).toBelow (Nat.le_refl _) (fun i h => h.elim)))
    refine lStore (cs := [.slice a1 ws.length c1, .int .i64 lane, .int .i64 (cutT now), .int .i64 (addT now k.life), .int .i64 (seq + 1)]) rfl rfl rfl rfl hM12 rfl (by kernel_rfl) rfl ?_
    refine lPure (v := .int .i64 0) rfl (by simp [go_sem, Act.put]) ?_
    go_wp2
    refine roffer_ret (gc := [.int .i64 k.kind, .int .i64 k.frm, .int .i64 k.to, .int .i64 k.words, .int .i64 k.refresh, .int .i64 k.lanes, .int .i64 k.depth, .int .i64 k.hold, .int .i64 k.life, .int .i64 k.rate, .int .i64 k.cap, .int .i64 (lnT k.lanes), .int .i64 (plT k.depth), .slice ra' ps'.length rc', .int .i64 qr, .int .i64 qc, .int .i64 qt, .int .i64 qd, .int .i64 (seq + 1)]) (mc := [.slice a1 ws.length c1, .int .i64 lane, .int .i64 (cutT now), .int .i64 (addT now k.life), .int .i64 (seq + 1)]) rfl rfl rfl rfl hf3.out hf2.out rfl rfl ?_
    rw [hRe.out]
    exact ⟨_, ps', a1, c1, rfl, hps'.out, hQ13.out.mono (fun b h _ => by rcases h.1 with h | h; exact .inl h.1; exact .inr (by have := hgb.out; omega)) (fun b h _ => by rcases h.1 with h | h; exact .inl h.1; exact .inr (by have := hgb.out; omega)), hPl'.out, hi13.out.mono (fun b h _ => by have := hgb.out; omega), hB13.out⟩
end Go.Proofs.Ytealopempjempaa.Gt
