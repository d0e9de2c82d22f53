/- DERIVED. Helper words for this session's proofs: a block known whole, a row of equal structs flattened, worlds that grow, worlds of which a set of blocks has turned. -/
import Derived.Test.YtnlmkllhmldgiaaProg
import Derived.WalkKit
import Derived.Deep.QuietTactic
import Derived.BigQuiet
import Derived.Deep.RegionWith
import Derived.Deep.RegionHeld3
namespace Go.Proofs.Ytnlmkllhmldgiaa.K
set_option linter.unusedVariables false
set_option linter.unusedSimpArgs false
open Go.RowKit

theorem hid {p : Prop} (h : p) : Hid p := h

theorem rbool {a b : Bool} (h : a = b) : Ending.returned (.bool a) = .returned (.bool b) := by rw [h]
theorem rint {k : IntKind} {a b : Int} (h : a = b) : Ending.returned (.int k a) = .returned (.int k b) := by rw [h]
/-- Block b holds just these cells, none frozen. -/
def pts (w : World) (b : Nat) (cs : List Value) (T : TypeId) : Prop := w.heap[b]? = some (.cells cs.toArray T (0, 0))

theorem pts.lt {w : World} {b : Nat} {cs : List Value} {T : TypeId} (h : pts w b cs T) : b < w.heap.size := (Array.getElem?_eq_some_iff.1 h).1
theorem pts.cell {w : World} {b : Nat} {cs : List Value} {T : TypeId} (h : pts w b cs T) (o : Nat) : w.cell? ⟨b, o, none⟩ = cs[o]? := by
  unfold pts at h; simp [World.cell?, h]
theorem pts.frozen {w : World} {b : Nat} {cs : List Value} {T : TypeId} (h : pts w b cs T) (o : Nat) : w.frozen? ⟨b, o, none⟩ = false := by
  unfold pts at h; simp [World.frozen?, h]
theorem pts.of {w w' : World} {b : Nat} {cs : List Value} {T : TypeId} (h : pts w b cs T) (e : w'.heap[b]? = w.heap[b]?) : pts w' b cs T := e.trans h
theorem pts.alloc {w : World} {b : Nat} {cs : List Value} {T : TypeId} (h : pts w b cs T) (o : Obj) : pts (w.alloc o) b cs T := h.of (Below.heap_alloc _ _ _ h.lt)
theorem pts.drew {w : World} {b : Nat} {cs : List Value} {T : TypeId} (h : pts w b cs T) : pts w.drew b cs T := h
theorem pts.new (w : World) (cs : List Value) (T : TypeId) : pts (w.alloc (.cells cs.toArray T)) w.heap.size cs T := heap_alloc_new w _
theorem pts.newA (w : World) (cs : Array Value) (T : TypeId) : pts (w.alloc (.cells cs T)) w.heap.size cs.toList T := heap_alloc_new w _
theorem pts.set {w : World} {b : Nat} {cs : List Value} {T : TypeId} (h : pts w b cs T) (o : Nat) (v : Value) : pts (w.setCell ⟨b, o, none⟩ v) b (cs.set o v) T := by
  unfold pts at h ⊢; rw [heap_setCell_same w b o _ T v h]; simp
theorem pts.set_ne {w : World} {b : Nat} {cs : List Value} {T : TypeId} (h : pts w b cs T) {a : Addr} (hne : b ≠ a.block) (v : Value) : pts (w.setCell a v) b cs T := h.of (Below.heap_setCell _ _ _ _ hne)
theorem pts.below {w w' : World} {b : Nat} {cs : List Value} {T : TypeId} (h : pts w b cs T) (hb : Below w.heap.size w w') : pts w' b cs T := h.of (hb.block b h.lt)
theorem pts.belowOf {B : Nat} {w w' : World} {b : Nat} {cs : List Value} {T : TypeId} (h : pts w b cs T) (hb : Below B w w') (hB : b < B) : pts w' b cs T := h.of (hb.block b hB)

/-- From w to w' nothing old has turned but in blocks of M. -/
structure Chg (M : Nat → Prop) (w w' : World) : Prop where
  os : w'.os = w.os
  tape : w'.tape = w.tape
  output : w'.output = w.output
  size : w.heap.size ≤ w'.heap.size
  block : ∀ k, k < w.heap.size → ¬ M k → w'.heap[k]? = w.heap[k]?

theorem Chg.refl (M : Nat → Prop) (w : World) : Chg M w w := ⟨rfl, rfl, rfl, Nat.le_refl _, fun _ _ _ => rfl⟩
theorem Chg.of_below {M : Nat → Prop} {w w' : World} (h : Below w.heap.size w w') : Chg M w w' := ⟨h.os, h.tape, h.output, h.size, fun k hk _ => h.block k hk⟩
theorem Chg.trans {M M' : Nat → Prop} {a b c : World} (h : Chg M a b) (k : Chg M' b c) (hM : ∀ i, M' i → M i ∨ a.heap.size ≤ i) : Chg M a c :=
  ⟨k.os.trans h.os, k.tape.trans h.tape, k.output.trans h.output, Nat.le_trans h.size k.size, fun i hi hn =>
    (k.block i (Nat.lt_of_lt_of_le hi h.size) (fun hm => by rcases hM i hm with h1 | h1; exact hn h1; omega)).trans (h.block i hi hn)⟩
theorem Chg.mono {M M' : Nat → Prop} {w w' : World} (h : Chg M w w') (hM : ∀ i, M i → M' i) : Chg M' w w' := ⟨h.os, h.tape, h.output, h.size, fun k hk hn => h.block k hk (fun m => hn (hM k m))⟩
theorem Chg.alloc {M : Nat → Prop} {a w : World} (h : Chg M a w) (o : Obj) : Chg M a (w.alloc o) :=
  h.trans (M' := fun _ => False) ⟨rfl, rfl, rfl, by simp, fun k hk _ => Below.heap_alloc _ _ _ hk⟩ (fun _ h => h.elim)
theorem Chg.drew {M : Nat → Prop} {a w : World} (h : Chg M a w) : Chg M a w.drew := ⟨h.os, h.tape, h.output, h.size, h.block⟩
theorem Chg.setCell {M : Nat → Prop} {a w : World} (h : Chg M a w) {p : Addr} (hp : M p.block ∨ a.heap.size ≤ p.block) (u : Value) : Chg M a (w.setCell p u) :=
  h.trans (M' := fun b => b = p.block) ⟨rfl, rfl, rfl, by simp [World.setCell], fun k _ hn => Below.heap_setCell _ _ _ _ hn⟩ (fun i hi => by subst hi; exact hp)
theorem Chg.setB {M : Nat → Prop} {a w : World} {b o : Nat} {u : Value} (h : Chg M a w) (hp : M b) : Chg M a (w.setCell ⟨b, o, none⟩ u) := h.setCell (.inl hp) u
theorem Chg.setN {M : Nat → Prop} {a w : World} {b o : Nat} {u : Value} (h : Chg M a w) (hp : a.heap.size ≤ b) : Chg M a (w.setCell ⟨b, o, none⟩ u) := h.setCell (.inr hp) u
theorem Chg.below {M : Nat → Prop} {a w w' : World} (h : Chg M a w) (hb : Below w.heap.size w w') : Chg M a w' :=
  h.trans (M' := fun _ => False) (Chg.of_below hb) (fun _ h => h.elim)
theorem Chg.toBelow {M : Nat → Prop} {B : Nat} {w w' : World} (h : Chg M w w') (hB : B ≤ w.heap.size) (hM : ∀ i, M i → B ≤ i) : Below B w w' :=
  ⟨h.os, h.tape, h.output, h.size, fun k hk => h.block k (by omega) (fun m => by have := hM k m; omega)⟩
theorem pts.chg {M : Nat → Prop} {w w' : World} {b : Nat} {cs : List Value} {T : TypeId} (h : pts w b cs T) (hc : Chg M w w') (hb : ¬ M b) : pts w' b cs T := h.of (hc.block b h.lt hb)
theorem Below.thenChg {M : Nat → Prop} {B : Nat} {a w w' : World} (h : Below B a w) (hc : Chg M w w') (hB : B ≤ w.heap.size) (hM : ∀ i, M i → B ≤ i) : Below B a w' := h.trans (hc.toBelow hB hM)
theorem Below.next {B : Nat} {a w w' : World} (h : Below B a w) (hc : Below w.heap.size w w') (hB : B ≤ w.heap.size) : Below B a w' := h.trans (hc.mono hB)

theorem bcell {W w1 : World} (hb : Below W.heap.size W w1) : (∀ b o, b < W.heap.size → w1.cell? ⟨b, o, none⟩ = W.cell? ⟨b, o, none⟩) ∧ (∀ b o, b < W.heap.size → w1.frozen? ⟨b, o, none⟩ = W.frozen? ⟨b, o, none⟩) :=
  ⟨fun b o h => hb.cell (p := ⟨b, o, none⟩) h, fun b o h => hb.frozen (p := ⟨b, o, none⟩) h⟩

theorem bcellD {W W0 w1 : World} (hb : Below W.heap.size W w1) (he : W.heap = W0.heap) : (∀ b o, b < W0.heap.size → w1.cell? ⟨b, o, none⟩ = W0.cell? ⟨b, o, none⟩) ∧ (∀ b o, b < W0.heap.size → w1.frozen? ⟨b, o, none⟩ = W0.frozen? ⟨b, o, none⟩) :=
  ⟨fun b o h => World.cell?_of_block (w := W0) ((hb.block b (by rw [he]; exact h)).trans (by rw [he])), fun b o h => World.frozen?_of_block (w := W0) ((hb.block b (by rw [he]; exact h)).trans (by rw [he]))⟩
/-- what lies below N reads as before: N written out, so that the walk can see what is below. -/
theorem bcellN {W w1 : World} (N : Nat) (hN : W.heap.size = N) (hb : Below W.heap.size W w1) : (∀ b o, b < N → w1.cell? ⟨b, o, none⟩ = W.cell? ⟨b, o, none⟩) ∧ (∀ b o, b < N → w1.frozen? ⟨b, o, none⟩ = W.frozen? ⟨b, o, none⟩) ∧ N ≤ w1.heap.size := by
  subst hN; exact ⟨(bcell hb).1, (bcell hb).2, hb.size⟩
theorem bcellLe {W w1 : World} (N : Nat) (hN : N ≤ W.heap.size) (hb : Below W.heap.size W w1) : (∀ b o, b < N → w1.cell? ⟨b, o, none⟩ = W.cell? ⟨b, o, none⟩) ∧ (∀ b o, b < N → w1.frozen? ⟨b, o, none⟩ = W.frozen? ⟨b, o, none⟩) ∧ N ≤ w1.heap.size :=
  ⟨fun b o h => (bcell hb).1 b o (Nat.lt_of_lt_of_le h hN), fun b o h => (bcell hb).2 b o (Nat.lt_of_lt_of_le h hN), Nat.le_trans hN hb.size⟩
theorem below_of_none {w w' : World} (h : w.grownBy w' none) : Below w.heap.size w w' := ⟨h.os, h.tape, h.output, h.size, fun k hk => h.block k hk (by simp)⟩
theorem Below.ofDrew {w w' : World} (hb : Below w.drew.heap.size w.drew w') : Below w.heap.size w w' := ⟨hb.os, hb.tape, hb.output, hb.size, hb.block⟩

theorem cell_set_ne (w : World) {b o c p : Nat} {v : Value} (h : b ≠ c) : (w.setCell ⟨b, o, none⟩ v).cell? ⟨c, p, none⟩ = w.cell? ⟨c, p, none⟩ := World.cell?_of_block (w := w) (Below.heap_setCell _ _ _ _ (Ne.symm h))

/-- A row of structs of k cells each, one behind the other. -/
def flat {α : Type} (enc : α → List Value) (s : List α) : List Value := s.flatMap enc

section
variable {α : Type} {enc : α → List Value} {k : Nat}
theorem flat_length (hk : ∀ x, (enc x).length = k) (s : List α) : (flat enc s).length = s.length * k := by
  induction s with
  | nil => simp [flat]
  | cons x s ih => simp only [flat, List.flatMap_cons, List.length_append, List.length_cons] at ih ⊢; rw [ih, hk, Nat.add_mul]; omega
theorem flat_append (s t : List α) : flat enc (s ++ t) = flat enc s ++ flat enc t := by simp [flat]
theorem flat_cons (x : α) (s : List α) : flat enc (x :: s) = enc x ++ flat enc s := by simp [flat]
theorem flat_single (x : α) : flat enc [x] = enc x := by simp [flat]
theorem flat_nil : flat enc ([] : List α) = [] := rfl
theorem flat_get (hk : ∀ x, (enc x).length = k) (s : List α) (ex : List Value) (i j : Nat) (hi : i < s.length) (hj : j < k) : (flat enc s ++ ex)[i * k + j]? = (enc s[i])[j]? := by
  induction s generalizing i with
  | nil => simp at hi
  | cons x s ih =>
    rw [flat_cons, List.append_assoc]
    cases i with
    | zero => simp only [Nat.zero_mul, Nat.zero_add, List.getElem_cons_zero]; rw [List.getElem?_append_left (by rw [hk]; exact hj)]
    | succ i =>
      have hi' : i < s.length := by simpa using hi
      have h1 := ih i hi'
      rw [List.getElem?_append_right (by rw [hk, Nat.add_mul]; omega), hk]
      have e : (i + 1) * k + j - k = i * k + j := by rw [Nat.add_mul]; omega
      rw [e, h1]; rfl
theorem flat_set (hk : ∀ x, (enc x).length = k) (s : List α) (ex : List Value) (i j : Nat) (hi : i < s.length) (hj : j < k) (v : Value) (y : α) (hy : enc y = (enc s[i]).set j v) :
    (flat enc s ++ ex).set (i * k + j) v = flat enc (s.set i y) ++ ex := by
  induction s generalizing i with
  | nil => simp at hi
  | cons x s ih =>
    cases i with
    | zero =>
      simp only [Nat.zero_mul, Nat.zero_add, List.set_cons_zero, flat_cons, List.append_assoc]
      rw [List.set_append_left _ _ (by rw [hk]; exact hj)]
      have hy' : enc y = (enc x).set j v := hy
      rw [hy']
    | succ i =>
      have hi' : i < s.length := by simpa using hi
      have h1 := ih i hi' (by simpa using hy)
      rw [flat_cons, List.append_assoc, List.set_append_right _ _ (by rw [hk, Nat.add_mul]; omega), hk]
      have e : (i + 1) * k + j - k = i * k + j := by rw [Nat.add_mul]; omega
      rw [e, h1, List.set_cons_succ, flat_cons, List.append_assoc]
end

/-- What append and make want to know of a slice's type t, its elements' type e. -/
structure ElemOk (P : Program) (t e : TypeId) (size bytes : Nat) : Prop where
  u : P.underlying t = some (.slice e)
  i : ∃ i z, P.info? e = some i ∧ i.zero = some z ∧ i.size = size ∧ i.bytes = bytes ∧ z.cells.size = size
  pos : 0 < size
theorem ElemOk.mk' {P : Program} {t e : TypeId} {z : Value} {size bytes : Nat} (u : P.underlying t = some (.slice e)) (i : (P.info? e).map (fun i => (i.zero, i.size, i.bytes)) = some (some z, size, bytes)) (hz : z.cells.size = size) (pos : 0 < size) : ElemOk P t e size bytes := by
  obtain ⟨i0, hi, h0, h1, h2⟩ := info_parts i
  exact ⟨u, ⟨i0, z, hi, h0, h1, h2, hz⟩, pos⟩

theorem heap_at (w : World) (o : Obj) (g : Nat) (h : g = w.heap.size) : (w.alloc o).heap[g]? = some o := by subst h; exact heap_alloc_new w o
theorem own_block_ge {w : World} {base : Nat} {e : TypeId} {size n : Nat} {v : Value} {xs : List Value} (h : w.ownsRow base e size v n xs) : ∀ k, v.ownBlock = some k → base ≤ k := fun k hk => (h.lt k hk).1

theorem pts.grown {w w' : World} {b : Nat} {cs : List Value} {T : TypeId} (h : pts w b cs T) {base : Nat} {e : TypeId} {size n : Nat} {v : Value} {xs : List Value} (hg : w.grownBy w' v.ownBlock) (ho : w.ownsRow base e size v n xs) (hb : b < base) : pts w' b cs T :=
  h.of (hg.block b h.lt (fun e => by have := (ho.lt _ e.symm).1; omega))
theorem own_split {w : World} {base : Nat} {T : TypeId} {v : Value} {n : Nat} {cs : List Value} {k : Nat} (h : w.ownsRow base T k v n cs) (hn : 0 < n) : ∃ g cap ex, v = .slice (some ⟨g, 0, none⟩) n cap ∧ base ≤ g ∧ pts w g (cs ++ ex) T ∧ n ≤ cap ∧ cap ≤ maxLen := by
  rcases h.2 with ⟨_, h0⟩ | ⟨g, cap, cur, rfl, hb, hh, hnc, hcm, hcs, ht⟩
  · omega
  · refine ⟨g, cap, cur.toList.drop (n * k), rfl, hb, ?_, hnc, hcm⟩
    unfold pts; rw [hh, ← ht, List.take_append_drop]
/-- append of a row of cells to a row of the call's own; what the world is below B is kept. -/
theorem wpList_push {P : Program} {w : World} {ops : Array Oper} {rest : List Oper} {o : Oper} {a : Act} {Q : Exit → Act → World → Prop} (hgd : o.guard = none) (s x : Operand) (t : TypeId)
    (ho : o.op = .call { callee := .builtin .append, args := #[s, x], argTypes := #[t, t] })
    {e : TypeId} {size bytes : Nat} (hE : ElemOk P t e size bytes) {W0 : World} {B base n : Nat} {v : Value} {xs : List Value} (hs : a.eval s = v) (hown : w.ownsRow base e size v n xs) (hW : Below B W0 w) (hB : B ≤ base) (hbase : base ≤ w.heap.size)
    {g m c : Nat} {news : List Value} {T : TypeId} {fr : Nat × Nat} (hx : a.eval x = .slice (some ⟨g, 0, none⟩) m c) (hl : news.length = m * size) (hg : w.heap[g]? = some (.cells news.toArray T fr)) (h1 : ∀ u ∈ news, u.oneCell' = true)
    (h63 : n + m ≤ maxLen) (hbytes : (n + m) * bytes ≤ 140737488355328)
    (h : ∀ v' w', w'.ownsRow base e size v' (n + m) (xs ++ news) → Below B W0 w' → w.grownBy w' v.ownBlock → (v' = .slice none 0 0 ↔ v = .slice none 0 0 ∧ m = 0) → wpList P ops Q rest (a.put o.dst v') w') : wpList P ops Q (o :: rest) a w := by
  obtain ⟨i, z, hi, hz0, hz1, hz2, hz3⟩ := hE.i
  refine wpList_append_own w hgd s x t ho base e i z size bytes hE.u hi hz0 hz1 hz2 hz3 hE.pos v n xs hs hown ⟨g, 0, none⟩ m c news hx hl (fun j u hu => ?_) h1 h63 hbytes hbase (fun v' w' ho' hg' hn => ?_)
  · have e1 : (⟨g, 0, none⟩ : Addr).add j = ⟨g, j, none⟩ := by unfold Addr.add; split <;> simp_all
    rw [e1, cell_of_row w g j _ T fr hg]; simpa using hu
  · exact h v' w' ho' (hW.grown hg' (Nat.le_trans hB hbase) (fun k hk => Nat.le_trans hB (own_block_ge hown k hk))) hg' hn

/-- A slice of ints that reads as xs; its block meets ok. -/
def IntsAt (ok : Nat → Prop) (w : World) (v : Value) (xs : List Int) : Prop :=
  ∃ ao cap, v = .slice ao xs.length cap ∧ (xs.length ≤ cap ∧ cap ≤ maxLen ∧ (ao = none → cap = 0)) ∧ (xs = [] ∨ ∃ g o, ao = some ⟨g, o, none⟩ ∧ ok g ∧ g < w.heap.size ∧ ∀ i (h : i < xs.length), w.cell? ⟨g, o + i, none⟩ = some (.int .i64 xs[i]))
theorem IntsAt.kept {ok : Nat → Prop} {w w' : World} {v : Value} {xs : List Int} (h : IntsAt ok w v xs) (hs : w.heap.size ≤ w'.heap.size) (hk : ∀ b, ok b → b < w.heap.size → w'.heap[b]? = w.heap[b]?) : IntsAt ok w' v xs := by
  obtain ⟨ao, cap, hv, hl, hx⟩ := h
  refine ⟨ao, cap, hv, hl, ?_⟩
  rcases hx with hx | ⟨g, o, h1, h2, h3, h4⟩
  · exact .inl hx
  · exact .inr ⟨g, o, h1, h2, by omega, fun i hi => (World.cell?_of_block (hk g h2 h3)).trans (h4 i hi)⟩
theorem IntsAt.mono {ok ok' : Nat → Prop} {w : World} {v : Value} {xs : List Int} (h : IntsAt ok w v xs) (hk : ∀ b, ok b → b < w.heap.size → ok' b) : IntsAt ok' w v xs := by
  obtain ⟨ao, cap, hv, hl, hx⟩ := h
  refine ⟨ao, cap, hv, hl, ?_⟩
  rcases hx with hx | ⟨g, o, h1, h2, h3, h4⟩
  · exact .inl hx
  · exact .inr ⟨g, o, h1, hk g h2 h3, h3, h4⟩
theorem IntsAt.below {ok : Nat → Prop} {w w' : World} {v : Value} {xs : List Int} (h : IntsAt ok w v xs) (hb : Below w.heap.size w w') : IntsAt ok w' v xs := h.kept hb.size (fun b _ hb' => hb.block b hb')
theorem IntsAt.chg {M ok : Nat → Prop} {w w' : World} {v : Value} {xs : List Int} (h : IntsAt ok w v xs) (hc : Chg M w w') (hM : ∀ b, ok b → b < w.heap.size → ¬ M b) : IntsAt ok w' v xs := h.kept hc.size (fun b h1 h2 => hc.block b h2 (hM b h1 h2))
theorem IntsAt.set {ok : Nat → Prop} {w : World} {v : Value} {xs : List Int} (h : IntsAt ok w v xs) {b o : Nat} {u : Value} (hp : ∀ c, ok c → c ≠ b) : IntsAt ok (w.setCell ⟨b, o, none⟩ u) v xs := h.kept (by simp) (fun c hc _ => Below.heap_setCell _ _ _ _ (hp c hc))
theorem IntsAt.nil (ok : Nat → Prop) (w : World) : IntsAt ok w (.slice none 0 0) [] := ⟨none, 0, rfl, ⟨by simp, by simp, fun _ => rfl⟩, .inl rfl⟩
theorem ints_map (xs : List Int) (n : Nat) (h : (xs.map (Value.int .i64)).length = n * 1) : n = xs.length := by simpa using h.symm
/-- What a call's own row of ints reads as. -/
theorem IntsAt.of_own {base : Nat} {w : World} {T : TypeId} {v : Value} {n : Nat} {xs : List Int} (h : w.ownsRow base T 1 v n (xs.map (Value.int .i64))) : IntsAt (fun b => base ≤ b) w v xs := by
  obtain rfl := ints_map xs n h.1
  rcases h.2 with ⟨rfl, hn⟩ | ⟨g, cap, cur, rfl, hb, hh, hn, hc, hcs, ht⟩
  · obtain rfl : xs = [] := List.eq_nil_of_length_eq_zero hn
    exact IntsAt.nil _ _
  · refine ⟨_, _, rfl, ⟨hn, hc, fun h => by cases h⟩, .inr ⟨g, 0, rfl, hb, (Array.getElem?_eq_some_iff.1 hh).1, fun i hi => ?_⟩⟩
    rw [h.cellAt (0 + i) (by omega)]
    simp [hi]
/-- The same, cut to its length. -/
theorem IntsAt.clip {ok : Nat → Prop} {w : World} {ao : Option Addr} {n cap cap' : Nat} {xs : List Int} (h : IntsAt ok w (.slice ao n cap) xs) (h1 : n ≤ cap') (h2 : cap' ≤ maxLen) (h3 : ao = none → cap' = 0) : IntsAt ok w (.slice ao n cap') xs := by
  obtain ⟨ao', cap0, hv, hl, hx⟩ := h
  simp only [Value.slice.injEq] at hv
  obtain ⟨rfl, rfl, rfl⟩ := hv
  exact ⟨_, _, rfl, ⟨h1, h2, h3⟩, hx⟩
theorem IntsAt.shape {ok : Nat → Prop} {w : World} {v : Value} {xs : List Int} (h : IntsAt ok w v xs) : ∃ ao cap, v = .slice ao xs.length cap := let ⟨ao, cap, hv, _⟩ := h; ⟨ao, cap, hv⟩

/-- A block of ints, and more behind. -/
theorem IntsAt.of_pts {ok : Nat → Prop} {w : World} {g cap : Nat} {xs : List Int} {ex : List Value} {T : TypeId} (h : pts w g (xs.map (Value.int .i64) ++ ex) T) (hk : ok g) (h1 : xs.length ≤ cap) (h2 : cap ≤ maxLen) : IntsAt ok w (.slice (some ⟨g, 0, none⟩) xs.length cap) xs :=
  ⟨_, _, rfl, ⟨h1, h2, fun h => by cases h⟩, .inr ⟨g, 0, rfl, hk, h.lt, fun i hi => by rw [h.cell, Nat.zero_add, List.getElem?_append_left (by simpa using hi)]; simp [hi]⟩⟩
theorem pts.int {w : World} {g : Nat} {xs : List Int} {ex : List Value} {T : TypeId} (h : pts w g (xs.map (Value.int .i64) ++ ex) T) (i : Nat) (hi : i < xs.length) : w.cell? ⟨g, i, none⟩ = some (.int .i64 xs[i]) := by
  rw [h.cell, List.getElem?_append_left (by simpa using hi)]; simp [hi]
theorem map_set_ex (xs : List Int) (ex : List Value) (i : Nat) (y : Int) (hi : i < xs.length) : (xs.map (Value.int .i64) ++ ex).set i (.int .i64 y) = (xs.set i y).map (Value.int .i64) ++ ex := by
  rw [List.set_append_left _ _ (by simpa using hi), List.map_set]
/-- Reading one of them. -/
theorem IntsAt.get {ok : Nat → Prop} {w : World} {ao : Option Addr} {n cap : Nat} {xs : List Int} (h : IntsAt ok w (.slice ao n cap) xs) : n = xs.length ∧ n ≤ cap ∧ cap ≤ 9223372036854775807 ∧ ∀ i (hi : i < xs.length), ∃ g o, ao = some ⟨g, o, none⟩ ∧ ok g ∧ g < w.heap.size ∧ w.cell? ⟨g, o + i, none⟩ = some (.int .i64 xs[i]) := by
  obtain ⟨ao', cap', hv, ⟨h1, h2, _⟩, hx⟩ := h
  simp only [Value.slice.injEq] at hv
  obtain ⟨rfl, rfl, rfl⟩ := hv
  refine ⟨rfl, h1, by simpa [maxLen] using h2, fun i hi => ?_⟩
  rcases hx with rfl | ⟨g, o, h3, h4, h5, h6⟩
  · simp at hi
  · exact ⟨g, o, h3, h4, h5, h6 i hi⟩
theorem wpList_append_run {P : Program} {w : World} {ops : Array Oper} {rest : List Oper} {o : Oper} {a : Act} {Q : Exit → Act → World → Prop} (hgd : o.guard = none) (s x : Operand) (t : TypeId)
    (ho : o.op = .call { callee := .builtin .append, args := #[s, x], argTypes := #[t, t] }) {v xv v' : Value} {w' : World} (hs : a.eval s = v) (hx : a.eval x = xv)
    (hr : (Builtin.append_ #[t, t] o.type #[v, xv]).run P w = .ok v' w') (h : wpList P ops Q rest (a.put o.dst v') w') : wpList P ops Q (o :: rest) a w :=
  wpList_plain hgd fun _ hK => by
    unfold Oper.wp execOp
    simp only [ho, resolve, invoke, builtin, Sem.run_bind, Sem.run_pure, Result.andThen_ok, List.map_toArray, List.map_cons, List.map_nil, hs, hx, hr]
    exact hK _ _ h

/-- append of a slice of ints that reads as ys to a row of the call's own. -/
theorem wpList_pushInts {P : Program} {w : World} {ops : Array Oper} {rest : List Oper} {o : Oper} {a : Act} {Q : Exit → Act → World → Prop} (hgd : o.guard = none) (s x : Operand) (t : TypeId)
    (ho : o.op = .call { callee := .builtin .append, args := #[s, x], argTypes := #[t, t] })
    {e : TypeId} (hE : ElemOk P t e 1 8) {W0 : World} {B base n : Nat} {v : Value} {xs : List Value} (hs : a.eval s = v) (hown : w.ownsRow base e 1 v n xs) (hW : Below B W0 w) (hB : B ≤ base) (hbase : base ≤ w.heap.size)
    {ok : Nat → Prop} {xv : Value} {ys : List Int} (hx : a.eval x = xv) (hr : IntsAt ok w xv ys) (h63 : n + ys.length ≤ 17592186044416)
    (h : ∀ v' w', w'.ownsRow base e 1 v' (n + ys.length) (xs ++ ys.map (Value.int .i64)) → Below B W0 w' → w.grownBy w' v.ownBlock → (v' = .slice none 0 0 ↔ v = .slice none 0 0 ∧ ys.length = 0) → wpList P ops Q rest (a.put o.dst v') w') : wpList P ops Q (o :: rest) a w := by
  obtain ⟨i, z, hi, hz0, hz1, hz2, hz3⟩ := hE.i
  obtain ⟨ao, cap, rfl, ⟨hc1, hc2, hc3⟩, hxs⟩ := hr
  have some_case : ∀ ad, ao = some ad → (∀ j u, (ys.map (Value.int .i64))[j]? = some u → w.cell? (ad.add j) = some u) → wpList P ops Q (o :: rest) a w := by
    rintro ad rfl hn
    refine wpList_append_own w hgd s x t ho base e i z 1 8 hE.u hi hz0 hz1 hz2 hz3 hE.pos v n xs hs hown ad ys.length cap (ys.map (Value.int .i64)) hx (by simp) hn (by simp [Value.oneCell']) (by unfold maxLen; omega) (by omega) hbase (fun v' w' ho' hg' hn => ?_)
    exact h v' w' ho' (hW.grown hg' (Nat.le_trans hB hbase) (fun k hk => Nat.le_trans hB (own_block_ge hown k hk))) hg' hn
  rcases hxs with rfl | ⟨g, o', rfl, h3, h4, h5⟩
  · cases ao with
    | none =>
      obtain rfl := hc3 rfl
      refine wpList_append_run hgd s x t ho hs hx (run_append_owned_none (P := P) w base t o.type e i 1 hE.u hi v n xs hown) (h v w (by simpa using hown) hW ⟨rfl, rfl, rfl, Nat.le_refl _, fun _ _ _ => rfl⟩ (by simp))
    | some ad => exact some_case ad rfl (fun j u hu => by simp at hu)
  · refine some_case _ rfl (fun j u hu => ?_)
    have e1 : (⟨g, o', none⟩ : Addr).add j = ⟨g, o' + j, none⟩ := by unfold Addr.add; split <;> simp_all
    rw [List.getElem?_map] at hu
    cases hj : ys[j]? with
    | none => rw [hj] at hu; cases hu
    | some y =>
      rw [hj] at hu
      obtain ⟨hj1, rfl⟩ := List.getElem?_eq_some_iff.1 hj
      simp at hu; subst hu
      rw [e1, h5 j hj1]

/-- The world but for draws. -/
def Drawn (w w' : World) : Prop := ∃ n, w' = w.drewN n
theorem Drawn.refl (w : World) : Drawn w w := ⟨0, rfl⟩
theorem Drawn.below {w w' : World} (h : Drawn w w') (B : Nat) : Below B w w' := by obtain ⟨n, rfl⟩ := h; exact ⟨rfl, rfl, rfl, Nat.le_refl _, fun _ _ => rfl⟩
theorem Drawn.heap {w w' : World} (h : Drawn w w') : w'.heap = w.heap := by obtain ⟨n, rfl⟩ := h; rfl
theorem take_eq_step {xs ys : List Int} {k : Nat} (hx : k < xs.length) (hy : k < ys.length) (h : xs.take k = ys.take k) (he : xs[k] = ys[k]) : xs.take (k + 1) = ys.take (k + 1) := by
  rw [List.take_succ_eq_append_getElem hx, List.take_succ_eq_append_getElem hy, h, he]

end Go.Proofs.Ytnlmkllhmldgiaa.K
