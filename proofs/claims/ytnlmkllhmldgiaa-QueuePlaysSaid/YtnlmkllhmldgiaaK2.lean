/- DERIVED. Helper words: a row that is rewritten: clear at a part of a row; append into the room that a row has. No statement is proved here. -/
import Derived.Test.YtnlmkllhmldgiaaK1
import Derived.Laws.CopyRow
import Derived.Deep.AppendLies
namespace Go.Proofs.Ytnlmkllhmldgiaa.K
set_option linter.unusedVariables false
set_option linter.unusedSimpArgs false
open Go.RowKit

theorem pts.setRow {w : World} {b : Nat} {cs : List Value} {T : TypeId} (h : pts w b cs T) (ds : List Value) : pts (w.setRow b ds.toArray) b ds T := setRow_heap w b cs.toArray ds.toArray T _ h
theorem pts.setRow_ne {w : World} {b c : Nat} {cs : List Value} {T : TypeId} (h : pts w b cs T) (hne : b ≠ c) (ds : Array Value) : pts (w.setRow c ds) b cs T := h.of (setRow_other w c b ds hne)
theorem Chg.setRow {M : Nat → Prop} {a w : World} {b : Nat} (h : Chg M a w) (hp : M b ∨ a.heap.size ≤ b) (ds : Array Value) : Chg M a (w.setRow b ds) :=
  h.trans (M' := fun c => c = b) ⟨rfl, rfl, rfl, by simp, fun k _ hn => setRow_other w b k ds hn⟩ (fun i hi => by subst hi; exact hp)

/-- 'clear(s[..])' at a part of a row. -/
theorem run_clear_row {P : Program} {w : World} {t e ty : TypeId} {z : Value} {zs : List Value} (ht : P.underlying t = some (.slice e)) (hz : ∀ w, (zeroValue e).run P w = .ok z w) {g o n c : Nat} {cs : List Value} {T : TypeId} (hp : pts w g cs T) (hn : 0 < n)
    (hzs : (Builtin.zeroCells z.cells n).toList = zs) (h1 : ∀ v ∈ zs, v.oneCell' = true) (hfit : o + zs.length ≤ cs.length) :
    (Builtin.clear_ #[t] ty #[.slice (some ⟨g, o, none⟩) n c]).run P w = .ok (.tuple #[]) (w.setRow g (cs.take o ++ zs ++ cs.drop (o + zs.length)).toArray) := by
  have hs := run_storeCells_at (P := P) g o T zs 0 cs.toArray w hp (by simpa using hfit) h1
  simp only [Nat.add_zero] at hs
  obtain ⟨n, rfl⟩ : ∃ k, n = k + 1 := ⟨n - 1, by omega⟩
  simp [Builtin.clear_, run_underlying ht, hz, hzs, hs, Result.andThen]
theorem wpList_clear_run {P : Program} {w : World} {ops : Array Oper} {rest : List Oper} {o : Oper} {a : Act} {Q : Exit → Act → World → Prop} (hgd : o.guard = none) (s : Operand) (t : TypeId)
    (ho : o.op = .call { callee := .builtin .clear, args := #[s], argTypes := #[t] }) {v r : Value} {w' : World} (hs : a.eval s = v)
    (hr : (Builtin.clear_ #[t] o.type #[v]).run P w = .ok r w') (h : wpList P ops Q rest (a.put o.dst r) w') : wpList P ops Q (o :: rest) a w :=
  wpList_plain hgd fun _ hK => by
    unfold Oper.wp execOp
    simp only [ho, resolve, invoke, builtin, Sem.run_bind, Sem.run_pure, Result.andThen_ok, List.map_toArray, List.map_cons, List.map_nil, hs, hr]
    exact hK _ _ h
/-- append of a fresh row to a row of the call's own, as one step of a region that draws. -/
theorem step_push {P : Program} {w : World} {ops : Array Oper} {o : Oper} {a : Act} {K : Act → World → Prop} {Q : Exit → Act → World → Prop} {E : Prop} (hgd : o.guard = none) (s x : Operand) (t : TypeId)
    (ho : o.op = .call { callee := .builtin .append, args := #[s, x], argTypes := #[t, t] }) {e : TypeId} {size bytes : Nat} (hE : ElemOk P t e size bytes) {base n : Nat} {v : Value} {xs : List Value} (hs : a.eval s = v) (hown : w.ownsRow base e size v n xs) (hbase : base ≤ w.heap.size)
    {g m c : Nat} {news : List Value} {T : TypeId} {fr : Nat × Nat} (hx : a.eval x = .slice (some ⟨g, 0, none⟩) m c) (hl : news.length = m * size) (hg : w.heap[g]? = some (.cells news.toArray T fr)) (h1 : ∀ u ∈ news, u.oneCell' = true) (hm : 0 < m)
    (h63 : n + m ≤ maxLen) (hbytes : (n + m) * bytes ≤ 140737488355328)
    (h : ∀ g' cap w', w'.ownsRow base e size (.slice (some ⟨g', 0, none⟩) (n + m) cap) (n + m) (xs ++ news) → w.grownBy w' v.ownBlock → (v.ownBlock = some g' ∨ g' = w.heap.size) → g' < w'.heap.size → K (a.put o.dst (.slice (some ⟨g', 0, none⟩) (n + m) cap)) w') :
    if Region.wanted o (yielded ops a.tmps) = true then Oper.wp P o a w K Q else E := by
  obtain ⟨i, z, hi, hz0, hz1, hz2, hz3⟩ := hE.i
  exact step_append_lies w hgd s x t ho base e i z size bytes hE.u hi hz0 hz1 hz2 hz3 hE.pos v n xs hs hown ⟨g, 0, none⟩ m c news hx hl (fun j u hu => by
    have e1 : (⟨g, 0, none⟩ : Addr).add j = ⟨g, j, none⟩ := by unfold Addr.add; split <;> simp_all
    rw [e1, cell_of_row w g j _ T fr hg]; simpa using hu) h1 hm h63 hbytes hbase w.heap.size rfl h
/-- append of a fresh row to a row of the call's own, its block the old one or a new one. -/
theorem wpList_push2 {P : Program} {w : World} {ops : Array Oper} {rest : List Oper} {o : Oper} {a : Act} {Q : Exit → Act → World → Prop} (hgd : o.guard = none) (s x : Operand) (t : TypeId)
    (ho : o.op = .call { callee := .builtin .append, args := #[s, x], argTypes := #[t, t] }) {e : TypeId} {size bytes : Nat} (hE : ElemOk P t e size bytes) {base n : Nat} {v : Value} {xs : List Value} (hs : a.eval s = v) (hown : w.ownsRow base e size v n xs) (hbase : base ≤ w.heap.size)
    {g m c : Nat} {news : List Value} {T : TypeId} {fr : Nat × Nat} (hx : a.eval x = .slice (some ⟨g, 0, none⟩) m c) (hl : news.length = m * size) (hg : w.heap[g]? = some (.cells news.toArray T fr)) (h1 : ∀ u ∈ news, u.oneCell' = true) (hm : 0 < m)
    (h63 : n + m ≤ maxLen) (hbytes : (n + m) * bytes ≤ 140737488355328)
    (h : ∀ g' cap w', w'.ownsRow base e size (.slice (some ⟨g', 0, none⟩) (n + m) cap) (n + m) (xs ++ news) → w.grownBy w' v.ownBlock → (v.ownBlock = some g' ∨ g' = w.heap.size) → g' < w'.heap.size → wpList P ops Q rest (a.put o.dst (.slice (some ⟨g', 0, none⟩) (n + m) cap)) w') :
    wpList P ops Q (o :: rest) a w := by
  obtain ⟨i, z, hi, hz0, hz1, hz2, hz3⟩ := hE.i
  exact wpList_append_lies w hgd s x t ho base e i z size bytes hE.u hi hz0 hz1 hz2 hz3 hE.pos v n xs hs hown ⟨g, 0, none⟩ m c news hx hl (fun j u hu => by
    have e1 : (⟨g, 0, none⟩ : Addr).add j = ⟨g, j, none⟩ := by unfold Addr.add; split <;> simp_all
    rw [e1, cell_of_row w g j _ T fr hg]; simpa using hu) h1 hm h63 hbytes hbase w.heap.size rfl h
end Go.Proofs.Ytnlmkllhmldgiaa.K
