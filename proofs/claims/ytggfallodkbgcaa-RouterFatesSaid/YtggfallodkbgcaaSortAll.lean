/- DERIVED. Plain words on lists that are sorted by a key, those of one key left in their row. No program is in sight; no statement is proved here. -/
/- DERIVED. Walks: the sort of messages by their lanes (slices.SortStableFunc at lane's closures). No statement is proved here. -/
/- DERIVED. Walks: slices' insertionSort, swapRange, rotate at messages. No statement is proved here. -/
/- DERIVED. Walks: slices' symMerge at messages. No statement is proved here. -/
/- DERIVED. Walks: slices' symMerge at messages, whole; SortStableFunc; lane's sorted. No statement is proved here. -/
/- DERIVED. Walks: symMerge by induction; SortStableFunc; lane's sorted. No statement is proved here. -/
import Derived.Test.YtggfallodkbgcaaK0
import Derived.Test.YtggfallodkbgcaaK3
import Derived.Deep.LoopGhost
import Derived.Deep.DeepCutAuto
import Derived.Deep.CutBlock
import Derived.BigRegion
import Derived.IntWalk
import Derived.Test.YtggfallodkbgcaaLibA
namespace Go.Proofs.Ytggfallodkbgcaa.Sp
set_option linter.unusedVariables false
set_option linter.unusedSimpArgs false
section
variable {α : Type} {key : α → Int}
/-- The same elements; those of one key in the same row. -/
structure Stab (key : α → Int) (u v : List α) : Prop where
  len : u.length = v.length
  row : ∀ k, u.filter (fun p => key p == k) = v.filter (fun p => key p == k)
theorem Stab.refl (u : List α) : Stab key u u := ⟨rfl, fun _ => rfl⟩
theorem Stab.trans {u v x : List α} (h : Stab key u v) (h' : Stab key v x) : Stab key u x := ⟨h.len.trans h'.len, fun k => (h.row k).trans (h'.row k)⟩
theorem Stab.symm {u v : List α} (h : Stab key u v) : Stab key v u := ⟨h.len.symm, fun k => (h.row k).symm⟩
theorem Stab.app {u v x y : List α} (h : Stab key u v) (h' : Stab key x y) : Stab key (u ++ x) (v ++ y) := ⟨by simp [h.len, h'.len], fun k => by rw [List.filter_append, List.filter_append, h.row, h'.row]⟩
theorem Stab.mem {u v : List α} (h : Stab key u v) {p : α} : p ∈ u ↔ p ∈ v := by
  have e : ∀ l : List α, p ∈ l ↔ p ∈ l.filter (fun q => key q == key p) := fun l => by simp
  rw [e u, e v, h.row]
theorem Stab.swap {u v : List α} (h : ∀ a ∈ u, ∀ b ∈ v, key b < key a) : Stab key (u ++ v) (v ++ u) := by
  refine ⟨by simp [Nat.add_comm], fun k => ?_⟩
  rw [List.filter_append, List.filter_append]
  by_cases hu : ∃ a ∈ u, key a = k
  · obtain ⟨a, ha, hk⟩ := hu
    have : v.filter (fun p => key p == k) = [] := by
      rw [List.filter_eq_nil_iff]
      intro b hb; have := h a ha b hb
      simp; omega
    rw [this]; simp
  · have : u.filter (fun p => key p == k) = [] := by
      rw [List.filter_eq_nil_iff]
      intro b hb; simp
      exact fun e => hu ⟨b, hb, e⟩
    rw [this]; simp
def Srt (key : α → Int) (u : List α) : Prop := u.Pairwise (fun a b => key a ≤ key b)
theorem Srt.nil : Srt key ([] : List α) := List.Pairwise.nil
theorem Srt.one (a : α) : Srt key [a] := List.pairwise_singleton _ _
theorem Srt.app {u v : List α} (hu : Srt key u) (hv : Srt key v) (h : ∀ a ∈ u, ∀ b ∈ v, key a ≤ key b) : Srt key (u ++ v) := List.pairwise_append.2 ⟨hu, hv, h⟩
theorem Srt.left {u v : List α} (h : Srt key (u ++ v)) : Srt key u := (List.pairwise_append.1 h).1
theorem Srt.right {u v : List α} (h : Srt key (u ++ v)) : Srt key v := (List.pairwise_append.1 h).2.1
theorem Srt.cross {u v : List α} (h : Srt key (u ++ v)) : ∀ a ∈ u, ∀ b ∈ v, key a ≤ key b := (List.pairwise_append.1 h).2.2
theorem Srt.at_ {u : List α} (h : Srt key u) {i j : Nat} (hi : i < u.length) (hj : j < u.length) (hij : i ≤ j) : key u[i] ≤ key u[j] := by
  rcases Nat.lt_or_ge i j with h1 | h1
  · exact List.pairwise_iff_getElem.1 h i j hi hj h1
  · obtain rfl : i = j := by omega
    exact Int.le_refl _
theorem Srt.sub {u : List α} (h : Srt key u) (f : α → Bool) : Srt key (u.filter f) := List.Pairwise.filter f h
/-- Sorted, and the same elements, those of one key in their row: there is but one such row. -/
theorem Srt.uniq : ∀ {u v : List α}, Srt key u → Srt key v → Stab key u v → u = v
  | [], v, _, _, h => (List.eq_nil_of_length_eq_zero h.len.symm).symm
  | a :: u, [], _, _, h => by have := h.len; simp at this
  | a :: u, b :: v, hu, hv, h => by
    have ha : a ∈ b :: v := h.mem.1 (by simp)
    have hb : b ∈ a :: u := h.mem.2 (by simp)
    have h1 : key b ≤ key a := by rcases List.mem_cons.1 ha with e | e; rw [e]; exact Int.le_refl _; exact (List.pairwise_cons.1 hv).1 a e
    have h2 : key a ≤ key b := by rcases List.mem_cons.1 hb with e | e; rw [e]; exact Int.le_refl _; exact (List.pairwise_cons.1 hu).1 b e
    have hk : key a = key b := by omega
    have hr := h.row (key a)
    simp only [List.filter_cons, hk, BEq.rfl, ↓reduceIte, List.cons.injEq] at hr
    obtain ⟨hab, hr⟩ := hr
    subst hab
    have h3 : Stab key u v := ⟨by have := h.len; simpa using this, fun k => by
      have := h.row k
      simp only [List.filter_cons] at this
      split at this
      · simpa using this
      · exact this⟩
    rw [Srt.uniq (List.pairwise_cons.1 hu).2 (List.pairwise_cons.1 hv).2 h3]
/-- e behind all that are no greater. -/
def insL (key : α → Int) (e : α) (l : List α) : List α := l.takeWhile (fun p => decide (key p ≤ key e)) ++ e :: l.dropWhile (fun p => decide (key p ≤ key e))
theorem drop_gt {e : α} {l : List α} (h : Srt key l) : ∀ p ∈ l.dropWhile (fun p => decide (key p ≤ key e)), key e < key p := by
  induction l with
  | nil => simp
  | cons a l ih =>
    rw [List.dropWhile_cons]
    split
    · exact ih (List.pairwise_cons.1 h).2
    · rename_i hn
      intro p hp
      have ha : key e < key a := by simpa using hn
      rcases List.mem_cons.1 hp with rfl | hp
      · exact ha
      · have := (List.pairwise_cons.1 h).1 p hp; omega
theorem take_le (e : α) (l : List α) : ∀ p ∈ l.takeWhile (fun p => decide (key p ≤ key e)), key p ≤ key e := fun p hp => by
  induction l with
  | nil => simp at hp
  | cons a l ih =>
    rw [List.takeWhile_cons] at hp
    split at hp
    · rename_i h1
      rcases List.mem_cons.1 hp with rfl | hp
      · simpa using h1
      · exact ih hp
    · simp at hp
theorem insL_stab {e : α} {l : List α} (h : Srt key l) : Stab key (l ++ [e]) (insL key e l) := by
  unfold insL
  have h1 : l.takeWhile (fun p => decide (key p ≤ key e)) ++ l.dropWhile (fun p => decide (key p ≤ key e)) = l := List.takeWhile_append_dropWhile
  have h2 : Stab key (l.dropWhile (fun p => decide (key p ≤ key e)) ++ [e]) ([e] ++ l.dropWhile (fun p => decide (key p ≤ key e))) := Stab.swap (fun a ha b hb => by simp at hb; subst hb; exact drop_gt h a ha)
  have h3 := (Stab.refl (key := key) (l.takeWhile (fun p => decide (key p ≤ key e)))).app h2
  rw [← List.append_assoc, h1] at h3
  simpa using h3
theorem insL_srt {e : α} {l : List α} (h : Srt key l) : Srt key (insL key e l) := by
  unfold insL
  have h1 : l.takeWhile (fun p => decide (key p ≤ key e)) ++ l.dropWhile (fun p => decide (key p ≤ key e)) = l := List.takeWhile_append_dropWhile
  have h0 := h
  rw [← h1] at h0
  refine h0.left.app (List.pairwise_cons.2 ⟨fun b hb => Int.le_of_lt (drop_gt h b hb), h0.right⟩) (fun a ha b hb => ?_)
  rcases List.mem_cons.1 hb with rfl | hb
  · exact take_le _ _ a ha
  · exact h0.cross a ha b hb
/-- A row sorted. -/
def sortL (key : α → Int) (u : List α) : List α := u.foldl (fun acc e => insL key e acc) []
theorem sortL_snoc (u : List α) (e : α) : sortL key (u ++ [e]) = insL key e (sortL key u) := by simp [sortL]
theorem sortL_ok (u : List α) : Stab key u (sortL key u) ∧ Srt key (sortL key u) := by
  have key' : ∀ (r l acc : List α), Stab key l acc → Srt key acc → Stab key (l ++ r) (r.foldl (fun acc e => insL key e acc) acc) ∧ Srt key (r.foldl (fun acc e => insL key e acc) acc) := by
    intro r
    induction r with
    | nil => intro l acc h1 h2; simpa using ⟨h1, h2⟩
    | cons e r ih =>
      intro l acc h1 h2
      have h3 := ih (l ++ [e]) (insL key e acc) ((h1.app (Stab.refl [e])).trans (insL_stab h2)) (insL_srt h2)
      simpa using h3
  have := key' u [] [] (Stab.refl _) Srt.nil
  rw [List.nil_append] at this
  exact this
theorem sortL_stab (u : List α) : Stab key u (sortL key u) := (sortL_ok u).1
theorem sortL_srt (u : List α) : Srt key (sortL key u) := (sortL_ok u).2
theorem sortL_of {u v : List α} (h : Stab key u v) (hs : Srt key v) : v = sortL key u := Srt.uniq hs (sortL_srt u) (h.symm.trans (sortL_stab u))
theorem sortL_srt_id {u : List α} (h : Srt key u) : sortL key u = u := (sortL_of (Stab.refl u) h).symm
theorem sortL_len (u : List α) : (sortL key u).length = u.length := (sortL_stab u).len.symm
theorem sortL_mem (u : List α) (p : α) : p ∈ sortL key u ↔ p ∈ u := (sortL_stab u).mem.symm
theorem sortL_row (u : List α) (k : Int) : (sortL key u).filter (fun p => key p == k) = u.filter (fun p => key p == k) := ((sortL_stab u).row k).symm
/-- One step of insertion: e ahead of l, if l is greater. -/
theorem ins_stop {d1 d2 : List α} {e : α} (h : Srt key (d1 ++ d2)) (h2 : ∀ p ∈ d2, key e < key p) (h1 : d1 = [] ∨ ∃ d l, d1 = d ++ [l] ∧ key l ≤ key e) : Srt key (d1 ++ e :: d2) ∧ Stab key (d1 ++ d2 ++ [e]) (d1 ++ e :: d2) := by
  refine ⟨h.left.app (List.pairwise_cons.2 ⟨fun b hb => Int.le_of_lt (h2 b hb), h.right⟩) (fun a ha b hb => ?_), ?_⟩
  · rcases List.mem_cons.1 hb with rfl | hb
    · rcases h1 with rfl | ⟨d, l, rfl, hl⟩
      · cases ha
      · have hs := h.left
        rcases List.mem_append.1 ha with ha | ha
        · have := hs.cross a ha l (by simp); omega
        · simp at ha; subst ha; exact hl
    · exact h.cross a ha b hb
  · rw [List.append_assoc]
    exact (Stab.refl d1).app (by simpa using (Stab.swap (key := key) (u := d2) (v := [e]) (fun a ha b hb => by simp at hb; subst hb; exact h2 a ha)))
/-- The joining of two sorted rows: parts that are exchanged, each part then joined. -/
theorem sym_join {u1 u2 v1 v2 z1 z2 : List α} (hu : Srt key (u1 ++ u2)) (hv : Srt key (v1 ++ v2)) (h1 : ∀ a ∈ u2, ∀ b ∈ v1, key b < key a) (h2 : ∀ a ∈ u1, ∀ b ∈ v2, key a ≤ key b) (hz1 : Stab key (u1 ++ v1) z1) (hs1 : Srt key z1) (hz2 : Stab key (u2 ++ v2) z2) (hs2 : Srt key z2) :
    Stab key (u1 ++ u2 ++ (v1 ++ v2)) (z1 ++ z2) ∧ Srt key (z1 ++ z2) := by
  constructor
  · have e : Stab key (u1 ++ (u2 ++ v1) ++ v2) (u1 ++ (v1 ++ u2) ++ v2) := ((Stab.refl u1).app (Stab.swap h1)).app (Stab.refl v2)
    have e2 : u1 ++ u2 ++ (v1 ++ v2) = u1 ++ (u2 ++ v1) ++ v2 := by simp
    have e3 : u1 ++ (v1 ++ u2) ++ v2 = (u1 ++ v1) ++ (u2 ++ v2) := by simp
    rw [e2]
    exact e.trans (e3 ▸ hz1.app hz2)
  · refine hs1.app hs2 (fun a ha b hb => ?_)
    rcases List.mem_append.1 (hz1.mem.2 ha) with ha | ha <;> rcases List.mem_append.1 (hz2.mem.2 hb) with hb | hb
    · exact hu.cross a ha b hb
    · exact h2 a ha b hb
    · exact Int.le_of_lt (h1 b hb a ha)
    · exact hv.cross a ha b hb
end
end Go.Proofs.Ytggfallodkbgcaa.Sp

namespace Go.Proofs.Ytggfallodkbgcaa.So
set_option linter.unusedVariables false
set_option linter.unusedSimpArgs false
open Go.RowKit Go.Proofs.Ytggfallodkbgcaa.K Go.Proofs.Ytggfallodkbgcaa.Sp
theorem all1_c (w : World) (a : Option Addr) (n c : Nat) (m : Msg) : Calls Try.prog 56 #[.agg #[.slice a n c, .int .i64 m.lane, .int .i64 m.stamp, .int .i64 m.late, .int .i64 m.seq]] w fun e w' => e = .returned (.int .i64 m.lane) ∧ Below w.heap.size w w' := by
  go_enter Try.func56, Try.ntmps56
  go_wp2
  go_ret
  exact ⟨rfl, (Below.refl _ _).alloc (Nat.le_refl _) _⟩
theorem split1_c (w : World) (a : Option Addr) (n c : Nat) (m : Msg) : Calls Try.prog 80 #[.agg #[.slice a n c, .int .i64 m.lane, .int .i64 m.stamp, .int .i64 m.late, .int .i64 m.seq]] w fun e w' => e = .returned (.int .i64 m.lane) ∧ Below w.heap.size w w' := by
  go_enter Try.func80, Try.ntmps80
  go_wp2
  go_ret
  exact ⟨rfl, (Below.refl _ _).alloc (Nat.le_refl _) _⟩
/-- cmp.Compare. -/
def cmpI (x y : Int) : Int := if x < y then -1 else if y < x then 1 else 0
theorem cmpI_lt (x y : Int) : (decide (cmpI x y < 0)) = decide (x < y) := by
  unfold cmpI
  by_cases h : x < y <;> by_cases h2 : y < x <;> simp [h, h2]
theorem isNaN_c (w : World) (x : Int) : Calls Try.prog 79 #[.int .i64 x] w fun e w' => e = .returned (.bool false) ∧ w = w' := by
  go_enter Try.func79, Try.ntmps79
  go_wp2
  go_ret
  exact ⟨rfl, rfl⟩
theorem compare_c (w : World) (x y : Int) : Calls Try.prog 69 #[.int .i64 x, .int .i64 y] w fun e w' => e = .returned (.int .i64 (cmpI x y)) ∧ w = w' := by
  have e0 : cmpI x y = if x < y then -1 else if y < x then 1 else 0 := rfl
  rcases (show x < y ∨ y < x ∨ x = y by omega) with h | h | h
  · rw [if_pos h] at e0
    have e0 := hid e0
    have h1 : decide (x < y) = true := by simpa using h
    go_enter Try.func69, Try.ntmps69
    go_wp2_with (first | (go_at_call 79; (with_reducible refine (isNaN_c _ _).mono ?_); rintro e w' ⟨rfl, rfl⟩))
    all_goals go_ret
    all_goals exact ⟨by rw [e0.out] <;> rfl, rfl⟩
  · rw [if_neg (by omega), if_pos h] at e0
    have e0 := hid e0
    have h1 : decide (x < y) = false := by simp; omega
    have h2 : decide (y < x) = true := by simpa using h
    go_enter Try.func69, Try.ntmps69
    go_wp2_with (first | (go_at_call 79; (with_reducible refine (isNaN_c _ _).mono ?_); rintro e w' ⟨rfl, rfl⟩))
    all_goals go_ret
    all_goals exact ⟨by rw [e0.out] <;> rfl, rfl⟩
  · subst h
    rw [if_neg (by omega), if_neg (by omega)] at e0
    have e0 := hid e0
    go_enter Try.func69, Try.ntmps69
    go_wp2_with (first | (go_at_call 79; (with_reducible refine (isNaN_c _ _).mono ?_); rintro e w' ⟨rfl, rfl⟩))
    all_goals go_ret
    all_goals exact ⟨by rw [e0.out] <;> rfl, rfl⟩
/-- The box of the key: one of the two closures that give a message's lane. -/
def KeyAt (w : World) (kb : Nat) : Prop := w.cell? ⟨kb, 0, none⟩ = some (.func (.func 56) #[] #[]) ∨ w.cell? ⟨kb, 0, none⟩ = some (.func (.func 80) #[] #[])
theorem KeyAt.of {w w' : World} {kb : Nat} (h : KeyAt w kb) (e : w'.heap[kb]? = w.heap[kb]?) : KeyAt w' kb := by
  rcases h with h | h
  · exact .inl ((World.cell?_of_block e).trans h)
  · exact .inr ((World.cell?_of_block e).trans h)
theorem KeyAt.lt {w : World} {kb : Nat} (h : KeyAt w kb) : kb < w.heap.size := by
  have e : ∃ v, w.cell? ⟨kb, 0, none⟩ = some v := by rcases h with h | h; exact ⟨_, h⟩; exact ⟨_, h⟩
  obtain ⟨v, hv⟩ := e
  unfold World.cell? at hv
  split at hv
  · rename_i h1; exact (Array.getElem?_eq_some_iff.1 h1).1
  · cases hv
set_option maxHeartbeats 1000000 in
theorem cmp_c {w : World} {kb : Nat} (hk : KeyAt w kb) (a b : Option Addr) (n c n' c' : Nat) (m m' : Msg) : Calls Try.prog 68 #[.agg #[.slice a n c, .int .i64 m.lane, .int .i64 m.stamp, .int .i64 m.late, .int .i64 m.seq], .agg #[.slice b n' c', .int .i64 m'.lane, .int .i64 m'.stamp, .int .i64 m'.late, .int .i64 m'.seq], .pointer (some ⟨kb, 0, none⟩)] w fun e w' => e = .returned (.int .i64 (cmpI m.lane m'.lane)) ∧ Below w.heap.size w w' := by
  have hl := hk.lt
  have hlt1 : kb ≠ w.heap.size := by omega
  have hlt2 : kb ≠ w.heap.size + 1 := by omega
  have hb := ((Below.refl w.heap.size w).alloc (Nat.le_refl _) (.cells #[.slice a n c, .int .i64 m.lane, .int .i64 m.stamp, .int .i64 m.late, .int .i64 m.seq] 37)).alloc (by simp) (.cells #[.slice b n' c', .int .i64 m'.lane, .int .i64 m'.stamp, .int .i64 m'.late, .int .i64 m'.seq] 37)
  have hA : At5 ((w.alloc (.cells #[.slice a n c, .int .i64 m.lane, .int .i64 m.stamp, .int .i64 m.late, .int .i64 m.seq] 37)).alloc (.cells #[.slice b n' c', .int .i64 m'.lane, .int .i64 m'.stamp, .int .i64 m'.late, .int .i64 m'.seq] 37)) w.heap.size 0 (.slice a n c) m := (At5.of_pts (pts.newA w _ _)).below ((Below.refl _ _).alloc (Nat.le_refl _) _)
  have hB : At5 ((w.alloc (.cells #[.slice a n c, .int .i64 m.lane, .int .i64 m.stamp, .int .i64 m.late, .int .i64 m.seq] 37)).alloc (.cells #[.slice b n' c', .int .i64 m'.lane, .int .i64 m'.stamp, .int .i64 m'.late, .int .i64 m'.seq] 37)) (w.heap.size + 1) 0 (.slice b n' c') m' := by
    have := At5.of_pts (pts.newA (w.alloc (.cells #[.slice a n c, .int .i64 m.lane, .int .i64 m.stamp, .int .i64 m.late, .int .i64 m.seq] 37)) #[.slice b n' c', .int .i64 m'.lane, .int .i64 m'.stamp, .int .i64 m'.late, .int .i64 m'.seq] 37)
    simpa using this
  have hs1 : w.heap.size < ((w.alloc (.cells #[.slice a n c, .int .i64 m.lane, .int .i64 m.stamp, .int .i64 m.late, .int .i64 m.seq] 37)).alloc (.cells #[.slice b n' c', .int .i64 m'.lane, .int .i64 m'.stamp, .int .i64 m'.late, .int .i64 m'.seq] 37)).heap.size := by simp; omega
  rcases hk with hk | hk
  · have hk2 := (hb.cell (p := ⟨kb, 0, none⟩) hl).trans hk
    go_enter Try.func68, Try.ntmps68
    go_upto_region 1 with fail
    generalize ((w.alloc (.cells #[.slice a n c, .int .i64 m.lane, .int .i64 m.stamp, .int .i64 m.late, .int .i64 m.seq] 37)).alloc (.cells #[.slice b n' c', .int .i64 m'.lane, .int .i64 m'.stamp, .int .i64 m'.late, .int .i64 m'.seq] 37)) = W at hb hA hB hs1 hk2 ⊢
    have hb := hid hb
    clear hk
    have hkl : kb < W.heap.size := by omega
    generalize w.heap.size + 1 = B2 at hlt2 hB ⊢
    generalize hB1 : w.heap.size = B1 at hlt1 hA hs1 hl ⊢
    replace hB1 := hid hB1
    have hA' := hid hA
    have hB' := hid hB
    obtain ⟨x0, x1, x2, x3, x4, hxl⟩ := hA
    obtain ⟨y0, y1, y2, y3, y4, hyl⟩ := hB
    simp only [Nat.zero_add] at x0 x1 x2 x3 x4 y0 y1 y2 y3 y4
    go_region_held3 (fun W => W.cell? ⟨kb, 0, none⟩ = some (.func (.func 56) #[] #[]) ∧ W.cell? ⟨B1, 0, none⟩ = some (.slice a n c) ∧ W.cell? ⟨B1, 1, none⟩ = some (.int .i64 m.lane) ∧ W.cell? ⟨B1, 2, none⟩ = some (.int .i64 m.stamp) ∧ W.cell? ⟨B1, 3, none⟩ = some (.int .i64 m.late) ∧ W.cell? ⟨B1, 4, none⟩ = some (.int .i64 m.seq) ∧ W.cell? ⟨B2, 0, none⟩ = some (.slice b n' c') ∧ W.cell? ⟨B2, 1, none⟩ = some (.int .i64 m'.lane) ∧ W.cell? ⟨B2, 2, none⟩ = some (.int .i64 m'.stamp) ∧ W.cell? ⟨B2, 3, none⟩ = some (.int .i64 m'.late) ∧ W.cell? ⟨B2, 4, none⟩ = some (.int .i64 m'.seq))
      (first | go_keep | ((try dsimp only); (repeat' apply And.intro) <;> go_keep))
      (first | (go_at_call 69; (with_reducible refine (compare_c _ _ _).mono ?_); rintro e w5 ⟨rfl, rfl⟩) | (go_at_call 56; (with_reducible refine (all1_c _ a n c m).mono ?_); rintro e w3 ⟨rfl, hb3⟩; have hb3 := Below.ofDrew hb3; have k3 := (hb3.cell (p := ⟨kb, 0, none⟩) hkl).trans hk2; obtain ⟨u0, u1, u2, u3, u4, -⟩ := hA'.out.below hb3; obtain ⟨v0, v1, v2, v3, v4, -⟩ := hB'.out.below hb3; simp only [Nat.zero_add] at u0 u1 u2 u3 u4 v0 v1 v2 v3 v4; have hb3 := hid hb3) | (go_at_call 56; (with_reducible refine (all1_c _ b n' c' m').mono ?_); rintro e w4 ⟨rfl, hb4⟩; have hb4 := Below.next hb3.out hb4 hb3.out.size; have k3 := (hb4.cell (p := ⟨kb, 0, none⟩) hkl).trans hk2; obtain ⟨u0, u1, u2, u3, u4, -⟩ := hA'.out.below hb4; obtain ⟨v0, v1, v2, v3, v4, -⟩ := hB'.out.below hb4; simp only [Nat.zero_add] at u0 u1 u2 u3 u4 v0 v1 v2 v3 v4; have hb4 := hid hb4))
    go_wp2
    go_ret
    exact ⟨rfl, Below.next hb.out hb4.out hb.out.size⟩
  · have hk2 := (hb.cell (p := ⟨kb, 0, none⟩) hl).trans hk
    go_enter Try.func68, Try.ntmps68
    go_upto_region 1 with fail
    generalize ((w.alloc (.cells #[.slice a n c, .int .i64 m.lane, .int .i64 m.stamp, .int .i64 m.late, .int .i64 m.seq] 37)).alloc (.cells #[.slice b n' c', .int .i64 m'.lane, .int .i64 m'.stamp, .int .i64 m'.late, .int .i64 m'.seq] 37)) = W at hb hA hB hs1 hk2 ⊢
    have hb := hid hb
    clear hk
    have hkl : kb < W.heap.size := by omega
    generalize w.heap.size + 1 = B2 at hlt2 hB ⊢
    generalize hB1 : w.heap.size = B1 at hlt1 hA hs1 hl ⊢
    replace hB1 := hid hB1
    have hA' := hid hA
    have hB' := hid hB
    obtain ⟨x0, x1, x2, x3, x4, hxl⟩ := hA
    obtain ⟨y0, y1, y2, y3, y4, hyl⟩ := hB
    simp only [Nat.zero_add] at x0 x1 x2 x3 x4 y0 y1 y2 y3 y4
    go_region_held3 (fun W => W.cell? ⟨kb, 0, none⟩ = some (.func (.func 80) #[] #[]) ∧ W.cell? ⟨B1, 0, none⟩ = some (.slice a n c) ∧ W.cell? ⟨B1, 1, none⟩ = some (.int .i64 m.lane) ∧ W.cell? ⟨B1, 2, none⟩ = some (.int .i64 m.stamp) ∧ W.cell? ⟨B1, 3, none⟩ = some (.int .i64 m.late) ∧ W.cell? ⟨B1, 4, none⟩ = some (.int .i64 m.seq) ∧ W.cell? ⟨B2, 0, none⟩ = some (.slice b n' c') ∧ W.cell? ⟨B2, 1, none⟩ = some (.int .i64 m'.lane) ∧ W.cell? ⟨B2, 2, none⟩ = some (.int .i64 m'.stamp) ∧ W.cell? ⟨B2, 3, none⟩ = some (.int .i64 m'.late) ∧ W.cell? ⟨B2, 4, none⟩ = some (.int .i64 m'.seq))
      (first | go_keep | ((try dsimp only); (repeat' apply And.intro) <;> go_keep))
      (first | (go_at_call 69; (with_reducible refine (compare_c _ _ _).mono ?_); rintro e w5 ⟨rfl, rfl⟩) | (go_at_call 80; (with_reducible refine (split1_c _ a n c m).mono ?_); rintro e w3 ⟨rfl, hb3⟩; have hb3 := Below.ofDrew hb3; have k3 := (hb3.cell (p := ⟨kb, 0, none⟩) hkl).trans hk2; obtain ⟨u0, u1, u2, u3, u4, -⟩ := hA'.out.below hb3; obtain ⟨v0, v1, v2, v3, v4, -⟩ := hB'.out.below hb3; simp only [Nat.zero_add] at u0 u1 u2 u3 u4 v0 v1 v2 v3 v4; have hb3 := hid hb3) | (go_at_call 80; (with_reducible refine (split1_c _ b n' c' m').mono ?_); rintro e w4 ⟨rfl, hb4⟩; have hb4 := Below.next hb3.out hb4 hb3.out.size; have k3 := (hb4.cell (p := ⟨kb, 0, none⟩) hkl).trans hk2; obtain ⟨u0, u1, u2, u3, u4, -⟩ := hA'.out.below hb4; obtain ⟨v0, v1, v2, v3, v4, -⟩ := hB'.out.below hb4; simp only [Nat.zero_add] at u0 u1 u2 u3 u4 v0 v1 v2 v3 v4; have hb4 := hid hb4))
    go_wp2
    go_ret
    exact ⟨rfl, Below.next hb.out hb4.out hb.out.size⟩
/-- Message i is written anew, cell by cell. -/
def put5 (w : World) (g o : Nat) (p : Value × Msg) : World := ((((w.setCell ⟨g, o, none⟩ p.1).setCell ⟨g, o + 1, none⟩ (.int .i64 p.2.lane)).setCell ⟨g, o + 2, none⟩ (.int .i64 p.2.stamp)).setCell ⟨g, o + 3, none⟩ (.int .i64 p.2.late)).setCell ⟨g, o + 4, none⟩ (.int .i64 p.2.seq)
theorem put5_pts {w : World} {g : Nat} {T : TypeId} {s : List (Value × Msg)} {ex : List Value} (h : pts w g (flat encM s ++ ex) T) {i : Nat} (hi : i < s.length) (p : Value × Msg) : pts (put5 w g (i * 5) p) g (flat encM (s.set i p) ++ ex) T := by
  have st : ∀ {w : World} {s : List (Value × Msg)} (hi : i < s.length) (j : Nat) (hj : j < 5) (v : Value) (y : Value × Msg), pts w g (flat encM s ++ ex) T → encM y = (encM s[i]).set j v → pts (w.setCell ⟨g, i * 5 + j, none⟩ v) g (flat encM (s.set i y) ++ ex) T := fun hi j hj v y h hy => by
    have := h.set (i * 5 + j) v
    rwa [flat_set encM_len _ _ _ _ hi hj v y hy] at this
  have h0 := st hi 0 (by omega) p.1 (p.1, s[i].2) h rfl
  have h1 := st (by simpa using hi) 1 (by omega) (.int .i64 p.2.lane) (p.1, { s[i].2 with lane := p.2.lane }) h0 (by simp [encM])
  have h2 := st (by simpa using hi) 2 (by omega) (.int .i64 p.2.stamp) (p.1, { s[i].2 with lane := p.2.lane, stamp := p.2.stamp }) h1 (by simp [encM])
  have h3 := st (by simpa using hi) 3 (by omega) (.int .i64 p.2.late) (p.1, { s[i].2 with lane := p.2.lane, stamp := p.2.stamp, late := p.2.late }) h2 (by simp [encM])
  have h4 := st (by simpa using hi) 4 (by omega) (.int .i64 p.2.seq) p h3 (by simp [encM])
  simp only [List.set_set] at h4
  exact h4
theorem put5_other (w : World) {g o b : Nat} (p : Value × Msg) (h : b ≠ g) : (put5 w g o p).heap[b]? = w.heap[b]? := by
  unfold put5
  rw [Below.heap_setCell _ _ _ _ h, Below.heap_setCell _ _ _ _ h, Below.heap_setCell _ _ _ _ h, Below.heap_setCell _ _ _ _ h, Below.heap_setCell _ _ _ _ h]
theorem put5_size (w : World) (g o : Nat) (p : Value × Msg) : (put5 w g o p).heap.size = w.heap.size := by unfold put5; simp
theorem put5_below {B g o : Nat} {w0 w : World} {p : Value × Msg} (h : Below B w0 w) (hg : B ≤ g) : Below B w0 (put5 w g o p) := ((((h.setCell hg _).setCell hg _).setCell hg _).setCell hg _).setCell hg _
theorem put5_ints {ok : Nat → Prop} {w : World} {v : Value} {xs : List Int} {g o : Nat} {p : Value × Msg} (h : IntsAt ok w v xs) (hg : ∀ b, ok b → b < w.heap.size → b ≠ g) : IntsAt ok (put5 w g o p) v xs := h.kept (by rw [put5_size]; exact Nat.le_refl _) (fun b h1 h2 => put5_other w p (hg b h1 h2))
def Row (g : Nat) : Nat → Prop := fun c => c = g
theorem put5_chg {w0 w : World} {g o : Nat} {p : Value × Msg} (h : Chg (Row g) w0 w) : Chg (Row g) w0 (put5 w g o p) := ((((h.setB rfl).setB rfl).setB rfl).setB rfl).setB rfl
/-- The row as the sort has it: the messages s, and more behind; the box of the key. -/
structure SortAt (w0 w : World) (g kb : Nat) (s : List (Value × Msg)) (ex : List Value) : Prop where
  at_ : pts w g (flat encM s ++ ex) 37
  chg : Chg (Row g) w0 w
  key : KeyAt w0 kb
  ne : kb ≠ g
  sh : ∀ p ∈ s, ∃ a n c, p.1 = .slice a n c
section
variable {w0 w w' : World} {g kb : Nat} {s : List (Value × Msg)} {ex : List Value}
theorem SortAt.keyAt (h : SortAt w0 w g kb s ex) : KeyAt w kb := h.key.of (h.chg.block kb h.key.lt h.ne)
theorem SortAt.below (h : SortAt w0 w g kb s ex) (hb : Below w.heap.size w w') : SortAt w0 w' g kb s ex := ⟨h.at_.below hb, h.chg.below hb, h.key, h.ne, h.sh⟩
theorem SortAt.put2 (h : SortAt w0 w g kb s ex) {i j : Nat} (hi : i < s.length) (hj : j < s.length) : SortAt w0 (put5 (put5 w g (i * 5) s[j]) g (j * 5) s[i]) g kb ((s.set i s[j]).set j s[i]) ex :=
  ⟨put5_pts (put5_pts h.at_ hi _) (by simpa using hj) _, put5_chg (put5_chg h.chg), h.key, h.ne, fun p hp => by
    rcases List.mem_or_eq_of_mem_set hp with hp | rfl
    · rcases List.mem_or_eq_of_mem_set hp with hp | rfl
      · exact h.sh p hp
      · exact h.sh _ (List.getElem_mem hj)
    · exact h.sh _ (List.getElem_mem hi)⟩
/-- Message i's cells. -/
theorem SortAt.get (h : SortAt w0 w g kb s ex) {i : Nat} (hi : i < s.length) : ∃ a n c, s[i] = (.slice a n c, s[i].2) ∧ At5 w g (i * 5) (.slice a n c) s[i].2 := by
  obtain ⟨a, n, c, e⟩ := h.sh _ (List.getElem_mem hi)
  have hc : ∀ j, j < 5 → w.cell? ⟨g, i * 5 + j, none⟩ = (encM s[i])[j]? := fun j hj => by rw [h.at_.cell, flat_get encM_len s ex i j hi hj]
  exact ⟨a, n, c, by rw [← e], ⟨by rw [← e]; exact hc 0 (by omega), hc 1 (by omega), hc 2 (by omega), hc 3 (by omega), hc 4 (by omega), h.at_.lt⟩⟩
end
end Go.Proofs.Ytggfallodkbgcaa.So

namespace Go.Proofs.Ytggfallodkbgcaa.So
set_option linter.unusedVariables false
set_option linter.unusedSimpArgs false
open Go.RowKit Go.Proofs.Ytggfallodkbgcaa.K Go.Proofs.Ytggfallodkbgcaa.Sp
/-- Two messages of a row change places. -/
theorem swap_mid {α : Type} (x c y : List α) (p q : α) : ((x ++ p :: c ++ q :: y).set x.length q).set (x.length + 1 + c.length) p = x ++ q :: c ++ p :: y := by
  have e1 : (x ++ p :: c ++ q :: y).set x.length q = x ++ q :: c ++ q :: y := by
    rw [List.append_assoc, List.set_append_right _ _ (Nat.le_refl _)]; simp
  rw [e1, List.set_append_right _ _ (by simp; omega)]
  have e : x.length + 1 + c.length - (x ++ q :: c).length = 0 := by simp; omega
  rw [e, List.set_cons_zero]
theorem swr_split {α : Type} {u v x c y : List α} {j : Nat} (hu : j < u.length) (hv : j < v.length) : x ++ (v.take j ++ u.drop j) ++ c ++ (u.take j ++ v.drop j) ++ y = (x ++ v.take j) ++ u[j] :: (u.drop (j + 1) ++ c ++ u.take j) ++ v[j] :: (v.drop (j + 1) ++ y) ∧
    x ++ (v.take (j + 1) ++ u.drop (j + 1)) ++ c ++ (u.take (j + 1) ++ v.drop (j + 1)) ++ y = (x ++ v.take j) ++ v[j] :: (u.drop (j + 1) ++ c ++ u.take j) ++ u[j] :: (v.drop (j + 1) ++ y) := by
  constructor
  · rw [List.drop_eq_getElem_cons hu, List.drop_eq_getElem_cons hv]
    simp only [List.append_assoc, List.cons_append, List.nil_append]
  · rw [List.take_succ_eq_append_getElem hu, List.take_succ_eq_append_getElem hv]
    simp only [List.append_assoc, List.cons_append, List.nil_append]
section
variable {w0 w : World} {g kb : Nat} {ex : List Value} {X C Y : List (Value × Msg)} {p q : Value × Msg}
/-- Two messages of the row: what they are, and the row behind an exchange. -/
theorem SortAt.two (h : SortAt w0 w g kb (X ++ p :: C ++ q :: Y) ex) {i j : Nat} (hi : i = X.length) (hj : j = X.length + 1 + C.length) :
    (∃ a n c, p.1 = .slice a n c) ∧ (∃ a n c, q.1 = .slice a n c) ∧ At5 w g (i * 5) p.1 p.2 ∧ At5 w g (j * 5) q.1 q.2 ∧
    SortAt w0 (put5 (put5 w g (i * 5) q) g (j * 5) p).drew g kb (X ++ q :: C ++ p :: Y) ex ∧ SortAt w0 (put5 (put5 w g (j * 5) p) g (i * 5) q).drew g kb (X ++ q :: C ++ p :: Y) ex := by
  subst hi hj
  have h1 : X.length < (X ++ p :: C ++ q :: Y).length := by simp
  have h2 : X.length + 1 + C.length < (X ++ p :: C ++ q :: Y).length := by simp; omega
  have e1 : (X ++ p :: C ++ q :: Y)[X.length] = p := by simp
  have e2 : (X ++ p :: C ++ q :: Y)[X.length + 1 + C.length] = q := by
    have hl : (X ++ p :: C).length = X.length + 1 + C.length := by simp; omega
    rw [List.getElem_append_right (by omega)]; simp [hl]
  obtain ⟨a, n, c, ea, ca⟩ := h.get h1
  obtain ⟨b, m, d, eb, cb⟩ := h.get h2
  have s1 := h.put2 h1 h2
  have s2 := h.put2 h2 h1
  rw [e1] at ea ca s1 s2
  rw [e2] at eb cb s1 s2
  rw [swap_mid] at s1
  rw [List.set_comm _ _ (by omega), swap_mid] at s2
  have ea1 : p.1 = .slice a n c := congrArg Prod.fst ea
  have eb1 : q.1 = .slice b m d := congrArg Prod.fst eb
  exact ⟨⟨a, n, c, ea1⟩, ⟨b, m, d, eb1⟩, ea1 ▸ ca, eb1 ▸ cb, s1.below (Below.refl _ _).drew, s2.below (Below.refl _ _).drew⟩
end
def cmpV (kb : Nat) : Value := .func (.func 68) #[] #[.pointer (some ⟨kb, 0, none⟩)]
def SwapPost (w0 : World) (g kb : Nat) (ex : List Value) (s : List (Value × Msg)) (e : Ending) (w' : World) : Prop := e = .returned (.tuple #[]) ∧ SortAt w0 w' g kb s ex
set_option maxHeartbeats 1000000 in
theorem swapRange_c {w0 w : World} {g kb : Nat} {ex : List Value} {x u c v y : List (Value × Msg)} (h : SortAt w0 w g kb (x ++ u ++ c ++ v ++ y) ex) (huv : u.length = v.length) {n cap : Nat} (hn : n = (x ++ u ++ c ++ v ++ y).length) (hc : n ≤ cap) (hm : n ≤ 1000000) (a b k : Int) (ha : a = x.length) (hb : b = x.length + u.length + c.length) (hk : k = u.length) :
    Calls Try.prog 89 #[.slice (some ⟨g, 0, none⟩) n cap, .int .i64 a, .int .i64 b, .int .i64 k, cmpV kb] w (SwapPost w0 g kb ex (x ++ v ++ c ++ u ++ y)) := by
  subst ha hb hk
  have hh := hid h
  replace huv := hid huv
  replace hn := hid hn
  unfold cmpV
  clear h
  go_enter Try.func89, Try.ntmps89
  go_wp2
  go_loopg [10] u.length (fun gg i wr => ∃ j : Nat, j ≤ u.length ∧ gg = u.length - j ∧ i = .int .i64 j ∧ SortAt w0 wr g kb (x ++ (v.take j ++ u.drop j) ++ c ++ (u.take j ++ v.drop j) ++ y) ex)
  case atStart => exact ⟨0, Nat.zero_le _, rfl, rfl, by simpa using hh.out⟩
  case round =>
    obtain ⟨j, hj, hgj, rfl, hS⟩ := hrel
    by_cases hlt : j < u.length
    · have hlv : j < v.length := by have := huv.out; omega
      obtain ⟨hL, hL'⟩ := swr_split (x := x) (c := c) (y := y) hlt hlv
      have hnn : (n : Int) = x.length + u.length + c.length + v.length + y.length := by rw [hn.out]; simp; omega
      have huvi : (u.length : Int) = v.length := by rw [huv.out]
      have ha1 : ((x.length : Int) + j) < n := by omega
      have ha2 : ((x.length : Int) + u.length + c.length + j) < n := by omega
      replace hnn := hid hnn
      replace huvi := hid huvi
      rw [hL] at hS
      obtain ⟨⟨a1, n1, c1, e1⟩, ⟨a2, n2, c2, e2⟩, ⟨x0, x1, x2, x3, x4, hxl⟩, ⟨y0, y1, y2, y3, y4, hyl⟩, hsw, -⟩ := hS.two (i := x.length + j) (j := x.length + u.length + c.length + j) (by simp; omega) (by simp; omega)
      have fz := fun o => hS.at_.frozen o
      rw [← hL'] at hsw
      have hsw := hid hsw
      clear hL hL' hS
      generalize u[j] = p at *
      generalize v[j] = q at *
      obtain ⟨pv, pm⟩ := p
      obtain ⟨qv, qm⟩ := q
      simp only at e1 e2 x0 x1 x2 x3 x4 y0 y1 y2 y3 y4
      subst e1 e2
      have t1 : ((x.length : Int) + j).toNat = x.length + j := by omega
      have t2 : ((x.length : Int) + u.length + c.length + j).toNat = x.length + u.length + c.length + j := by omega
      go_upto_region 3 with fail
      go_region
      have hfin := hsw.out
      unfold put5 at hfin
      simp only at hfin
      go_wp2
      go_roundg (u.length - (j + 1))
      case rel => exact ⟨j + 1, by omega, rfl, by go_num, hfin⟩
      case measure => omega
    · obtain rfl : j = u.length := by omega
      rw [List.take_length, List.drop_length, huv.out, List.take_length, List.drop_length, List.append_nil, List.append_nil] at hS
      go_wp2
      go_end0
      exact ⟨rfl, hS⟩
def laneOf (p : Value × Msg) : Int := p.2.lane
set_option maxHeartbeats 1000000 in
/-- Two blocks of a row change places. -/
theorem rotate_c {w0 w : World} {g kb : Nat} {ex : List Value} {x u v y : List (Value × Msg)} (h : SortAt w0 w g kb (x ++ u ++ v ++ y) ex) {n cap : Nat} (hn : n = (x ++ u ++ v ++ y).length) (hc : n ≤ cap) (hm : n ≤ 1000000) (hu : 0 < u.length) (hv : 0 < v.length) (a m b : Int) (ha : a = x.length) (hmm : m = x.length + u.length) (hb : b = x.length + u.length + v.length) :
    Calls Try.prog 88 #[.slice (some ⟨g, 0, none⟩) n cap, .int .i64 a, .int .i64 m, .int .i64 b, cmpV kb] w (SwapPost w0 g kb ex (x ++ v ++ u ++ y)) := by
  subst ha hmm hb
  have hnn : (n : Int) = x.length + u.length + v.length + y.length := by rw [hn]; simp; omega
  have hfin : ∀ w', SortAt w0 w' g kb (x ++ v ++ u ++ y) ex → SwapPost w0 g kb ex (x ++ v ++ u ++ y) (.returned (.tuple #[])) w' := fun w' h => ⟨rfl, h⟩
  have hx0 : (x.length : Int) + u.length = x.length + u.length := rfl
  have hbv : v.length ≤ 1000000 := by omega
  have hbu : u.length ≤ 1000000 := by omega
  generalize hM : x.length + u.length = M
  have hMi : (x.length : Int) + u.length = M := by omega
  replace hfin := hid hfin
  have hh := hid h
  replace hn := hid hn
  replace hnn := hid hnn
  replace hM := hid hM
  clear h hx0
  have e1 : (M : Int) - x.length = u.length := by omega
  have e2 : (x.length : Int) + u.length + v.length - M = v.length := by omega
  unfold cmpV
  rw [hMi] at e2 ⊢
  clear hMi
  go_enter Try.func88, Try.ntmps88
  go_wp2
  go_loopg [10, 11] (u.length + v.length) (fun gg si sj wr => ∃ (P A B S : List (Value × Msg)), si = .int .i64 A.length ∧ sj = .int .i64 B.length ∧ 0 < A.length ∧ 0 < B.length ∧ gg = A.length + B.length ∧ P.length + A.length = M ∧ P ++ B ++ A ++ S = x ++ v ++ u ++ y ∧ SortAt w0 wr g kb (P ++ A ++ B ++ S) ex)
  case atStart => exact ⟨x, u, v, y, rfl, rfl, hu, hv, rfl, hM.out, rfl, hh.out⟩
  case round =>
    obtain ⟨P, A, B, S, rfl, rfl, hA, hB, hgg, hPA, hout, hS⟩ := hrel
    have hln : n = (P ++ A ++ B ++ S).length := by
      have h1 := congrArg List.length hout
      have h2 := hnn.out
      simp only [List.length_append] at h1 ⊢
      omega
    have hPi := hid (show (M : Int) - A.length = P.length by omega)
    have hb1 : A.length ≤ M := by omega
    have hb2 : M + B.length ≤ 1000000 := by
      have h1 := hln
      simp only [List.length_append] at h1
      omega
    replace hPA := hid hPA
    replace hout := hid hout
    replace hgg := hid hgg
    by_cases hne : A.length = B.length
    · have hlast : Calls Try.prog 89 #[.slice (some ⟨g, 0, none⟩) n cap, .int .i64 (M - A.length), .int .i64 M, .int .i64 (A.length), cmpV kb] wr _ := swapRange_c (x := P) (u := A) (c := []) (v := B) (y := S) (by simpa using hS) hne (by rw [hln]; simp) hc hm _ _ _ hPi.out (by have := hPA.out; simp; omega) rfl
      unfold cmpV at hlast
      rw [← hne]
      replace hne := hid hne
      replace hlast := hid hlast
      replace hln := hid hln
      replace hS := hid hS
      go_wp2_with (first | (go_at_call 89; (with_reducible refine (hlast.out).mono ?_); rintro e w3 ⟨rfl, hS3⟩; replace hS3 := hid hS3))
      go_end0
      exact hfin.out _ (by have := hS3.out; rw [List.append_nil, hout.out] at this; exact this)
    · have hb3 : ((A.length : Int) != B.length) = true := by rw [bne_iff_ne]; omega
      by_cases hlt : B.length < A.length
      · have hsp : A = A.take B.length ++ A.drop B.length := (List.take_append_drop _ _).symm
        have hc1 : Calls Try.prog 89 #[.slice (some ⟨g, 0, none⟩) n cap, .int .i64 (M - A.length), .int .i64 M, .int .i64 (B.length), cmpV kb] wr _ := swapRange_c (x := P) (u := A.take B.length) (c := A.drop B.length) (v := B) (y := S) (by rw [List.append_assoc P, ← hsp]; exact hS) (by simp; omega) (by rw [List.append_assoc P, ← hsp]; exact hln) hc hm _ _ _ hPi.out (by have := hPA.out; simp; omega) (by simp; omega)
        have hS' := hid (fun w' (h : SortAt w0 w' g kb (P ++ B ++ A.drop B.length ++ A.take B.length ++ S) ex) => show SortAt w0 w' g kb ((P ++ B) ++ A.drop B.length ++ A.take B.length ++ S) ex from by simpa using h)
        have ho' := hid (show (P ++ B) ++ A.take B.length ++ A.drop B.length ++ S = x ++ v ++ u ++ y by rw [← hout.out]; simp only [List.append_assoc]; rw [← List.append_assoc (A.take B.length), List.take_append_drop])
        unfold cmpV at hc1
        have hd2 := hid (show (A.take B.length).length = B.length by simp; omega)
        have hd3 := hid (show (A.drop B.length).length = A.length - B.length by simp)
        clear hsp
        replace hc1 := hid hc1
        replace hln := hid hln
        replace hS := hid hS
        replace hne := hid hne
        go_wp2_with (first | (go_at_call 89; (with_reducible refine (hc1.out).mono ?_); rintro e w3 ⟨rfl, hS3⟩; replace hS3 := hid hS3))
        go_roundg (A.length)
        case rel => exact ⟨P ++ B, A.drop B.length, A.take B.length, S, by rw [hd3.out]; exact congrArg (Value.int .i64) (by omega), by rw [hd2.out], by rw [hd3.out]; omega, by rw [hd2.out]; omega, by rw [hd2.out, hd3.out]; omega, by have := hPA.out; rw [hd3.out]; simp; omega, ho'.out, hS'.out _ hS3.out⟩
        case measure => have := hgg.out; omega
      · have hgt : A.length < B.length := by omega
        have hsp : B = B.take (B.length - A.length) ++ B.drop (B.length - A.length) := (List.take_append_drop _ _).symm
        have hc1 : Calls Try.prog 89 #[.slice (some ⟨g, 0, none⟩) n cap, .int .i64 (M - A.length), .int .i64 (M + B.length - A.length), .int .i64 (A.length), cmpV kb] wr _ := swapRange_c (x := P) (u := A) (c := B.take (B.length - A.length)) (v := B.drop (B.length - A.length)) (y := S) (by rw [List.append_assoc (P ++ A), ← hsp]; exact hS) (by simp; omega) (by rw [List.append_assoc (P ++ A), ← hsp]; exact hln) hc hm _ _ _ hPi.out (by have := hPA.out; simp; omega) rfl
        have hS' := hid (fun w' (h : SortAt w0 w' g kb (P ++ B.drop (B.length - A.length) ++ B.take (B.length - A.length) ++ A ++ S) ex) => show SortAt w0 w' g kb (P ++ B.drop (B.length - A.length) ++ B.take (B.length - A.length) ++ (A ++ S)) ex from by simpa using h)
        have ho' := hid (show P ++ B.take (B.length - A.length) ++ B.drop (B.length - A.length) ++ (A ++ S) = x ++ v ++ u ++ y by rw [← hout.out]; simp only [List.append_assoc]; rw [← List.append_assoc (B.take (B.length - A.length)), List.take_append_drop])
        unfold cmpV at hc1
        have hd2 := hid (show (B.take (B.length - A.length)).length = B.length - A.length by simp)
        have hd3 := hid (show (B.drop (B.length - A.length)).length = A.length by simp; omega)
        clear hsp
        replace hc1 := hid hc1
        replace hln := hid hln
        replace hS := hid hS
        replace hne := hid hne
        go_wp2_with (first | (go_at_call 89; (with_reducible refine (hc1.out).mono ?_); rintro e w3 ⟨rfl, hS3⟩; replace hS3 := hid hS3))
        go_roundg (B.length)
        case rel => exact ⟨P, B.drop (B.length - A.length), B.take (B.length - A.length), A ++ S, by rw [hd3.out], by rw [hd2.out]; exact congrArg (Value.int .i64) (by omega), by rw [hd3.out]; omega, by rw [hd2.out]; omega, by rw [hd2.out, hd3.out]; omega, by have := hPA.out; rw [hd3.out]; omega, ho'.out, hS'.out _ hS3.out⟩
        case measure => have := hgg.out; omega
/-- What insertion sort leaves: the part sorted. -/
def SortPost (w0 : World) (g kb : Nat) (ex : List Value) (x u y : List (Value × Msg)) (e : Ending) (w' : World) : Prop := e = .returned (.tuple #[]) ∧ SortAt w0 w' g kb (x ++ sortL laneOf u ++ y) ex
theorem getLast_split {α : Type} (l : List α) : l = [] ∨ ∃ d a, l = d ++ [a] := by
  rcases List.eq_nil_or_concat l with h | ⟨d, a, h⟩
  · exact .inl h
  · exact .inr ⟨d, a, by simpa using h⟩
set_option maxHeartbeats 1000000 in
theorem insSort_c {w0 w : World} {g kb : Nat} {ex : List Value} {x u y : List (Value × Msg)} (h : SortAt w0 w g kb (x ++ u ++ y) ex) {n cap : Nat} (hn : n = (x ++ u ++ y).length) (hc : n ≤ cap) (hm : n ≤ 1000000) (a b : Int) (ha : a = x.length) (hb : b = x.length + u.length) :
    Calls Try.prog 85 #[.slice (some ⟨g, 0, none⟩) n cap, .int .i64 a, .int .i64 b, cmpV kb] w (SortPost w0 g kb ex x u y) := by
  subst ha hb
  have hnn : (n : Int) = x.length + u.length + y.length := by rw [hn]; simp; omega
  have hnN : n = x.length + u.length + y.length := by omega
  have hfin := hid (fun w' (h : SortAt w0 w' g kb (x ++ sortL laneOf u ++ y) ex) => show SortPost w0 g kb ex x u y (.returned (.tuple #[])) w' from ⟨rfl, h⟩)
  have hxb : x.length + u.length ≤ 1000000 := by omega
  have hh := hid h
  replace hn := hid hn
  replace hnn := hid hnn
  have hnN' := hid hnN
  have hnl : x.length + u.length ≤ n := by omega
  clear h hnN
  unfold cmpV
  go_enter Try.func85, Try.ntmps85
  go_wp2
  go_loopg [8, 9] (u.length - 1) (fun gg si _s9 wr => ∃ (k I : Nat), 1 ≤ k ∧ k ≤ max 1 u.length ∧ I = x.length + k ∧ si = .int .i64 I ∧ gg = u.length - k ∧ SortAt w0 wr g kb (x ++ sortL laneOf (u.take k) ++ u.drop k ++ y) ex)
  case atStart =>
    refine ⟨1, x.length + 1, by omega, by omega, rfl, by go_num, rfl, ?_⟩
    have h1 : sortL laneOf (u.take 1) = u.take 1 := sortL_srt_id (by rcases u with _ | ⟨p, r⟩; exact Srt.nil; exact Srt.one _)
    rw [h1, List.append_assoc x, List.take_append_drop]
    exact hh.out
  case round =>
    obtain ⟨k, I, hk1, hk, hI, rfl, hgk, hS⟩ := hrel
    by_cases hlt : k < u.length
    · have hdu : u.drop k = u[k] :: u.drop (k + 1) := List.drop_eq_getElem_cons hlt
      have htu : sortL laneOf (u.take (k + 1)) = insL laneOf u[k] (sortL laneOf (u.take k)) := by rw [List.take_succ_eq_append_getElem hlt, sortL_snoc]
      have hstb := insL_stab (e := u[k]) (sortL_srt (key := laneOf) (u.take k))
      have hsrt' := insL_srt (e := u[k]) (sortL_srt (key := laneOf) (u.take k))
      have hsrt := sortL_srt (key := laneOf) (u.take k)
      have hstl : (sortL laneOf (u.take k)).length = k := by rw [sortL_len]; simp; omega
      rw [hdu] at hS
      generalize sortL laneOf (u.take k) = d at hS htu hsrt hstl hstb hsrt'
      generalize u[k] = p at hS htu hstb hsrt'
      have hIn : I < n := by omega
      have hIm : I ≤ 1000000 := by omega
      have hlI : decide (I < x.length + u.length) = true := by simp; omega
      have hS1 : SortAt w0 wr g kb (x ++ d ++ p :: [] ++ (u.drop (k + 1) ++ y)) ex := by simpa using hS
      clear hS hdu
      replace htu := hid htu
      replace hstb := hid hstb
      replace hsrt := hid hsrt
      replace hsrt' := hid hsrt'
      have hI' := hid hI
      have hdl : d.length = k := hstl
      replace hstl := hid hstl
      have hkn := hid hnN'.out
      have hS1 := hid hS1
      go_wp2
      go_loopg [9] d.length (fun gg sj w2 => ∃ (d1 d2 : List (Value × Msg)) (J : Nat), d = d1 ++ d2 ∧ J = x.length + d1.length ∧ (∀ q ∈ d2, laneOf p < laneOf q) ∧ sj = .int .i64 J ∧ gg = d1.length ∧ SortAt w0 w2 g kb (x ++ d1 ++ p :: d2 ++ (u.drop (k + 1) ++ y)) ex)
      case atStart => exact ⟨d, [], I, by simp, by rw [hI, hdl], (fun q hq => by cases hq), rfl, rfl, hS1.out⟩
      case round =>
        obtain ⟨d1, d2, J, hd, hJ, hgt, rfl, hgj, hS⟩ := hrel
        have hJn : J < n := by have := congrArg List.length hd; simp at this; omega
        have hJm : J ≤ 1000000 := by omega
        rcases getLast_split d1 with rfl | ⟨d', l, rfl⟩
        · have hJ0 : J = x.length := by simpa using hJ
          have hg0 : decide (x.length < J) = false := by simp; omega
          have hst := ins_stop (key := laneOf) (d1 := []) (d2 := d2) (e := p) (by rw [← hd]; exact hsrt.out) hgt (.inl rfl)
          have he : insL laneOf p d = [] ++ p :: d2 := Srt.uniq hsrt'.out hst.1 (hstb.out.symm.trans (by rw [hd]; exact hst.2))
          have hS2 := hid (show SortAt w0 wr g kb (x ++ sortL laneOf (u.take (k + 1)) ++ u.drop (k + 1) ++ y) ex by rw [htu.out, he]; simpa using hS)
          replace hS := hid hS
          replace hd := hid hd
          clear hst he hgt hJ
          subst hJ0
          go_wp2
          go_quiet (fail)
          go_wp2
          go_roundg (u.length - (k + 1))
          case rel => exact ⟨k + 1, I + 1, by omega, by omega, by omega, by go_num, rfl, hS2.out.below (K.Below.drewN _ _ _)⟩
          case measure => omega
        · obtain ⟨J', hJJ⟩ : ∃ j, J = j + 1 := ⟨J - 1, by simp at hJ; omega⟩
          have hJ' : J' = x.length + d'.length := by simp at hJ; omega
          have hg1 : decide (x.length < J) = true := by simp; omega
          have hj1 : (J : Int) < n := by omega
          have hj2 : (J : Int) - 1 < n := by omega
          have hj3 : (0 : Int) ≤ (J : Int) - 1 := by omega
          have hj4 : 1 ≤ J := by omega
          have hwr : IntKind.i64.wrap ((J : Int) - 1) = (J : Int) - 1 := IntWalk.i64_in _ (by omega)
          have hj6 : (1 : Int) ≤ J := by omega
          have hj7 : (J : Int) ≤ n := by omega
          have hj8 : J ≤ n := by omega
          have hj5 : ((J : Int) - 1).toNat = J' := by omega
          have hL : x ++ (d' ++ [l]) ++ p :: d2 ++ (u.drop (k + 1) ++ y) = (x ++ d') ++ l :: [] ++ p :: (d2 ++ (u.drop (k + 1) ++ y)) := by simp
          have hL' : (x ++ d') ++ p :: [] ++ l :: (d2 ++ (u.drop (k + 1) ++ y)) = x ++ d' ++ p :: (l :: d2) ++ (u.drop (k + 1) ++ y) := by simp
          have hS' := hS
          rw [hL] at hS'
          obtain ⟨⟨a1, n1, c1, e1⟩, ⟨a2, n2, c2, e2⟩, hat1, hat2, -, hsw⟩ := hS'.two (i := J') (j := J) (by simp; omega) (by simp; omega)
          rw [hL'] at hsw
          have hkey := hS'.keyAt
          have hst : laneOf l ≤ laneOf p → SortAt w0 wr g kb (x ++ sortL laneOf (u.take (k + 1)) ++ u.drop (k + 1) ++ y) ex := fun hle => by
            have hst := ins_stop (key := laneOf) (d1 := d' ++ [l]) (d2 := d2) (e := p) (by rw [← hd]; exact hsrt.out) hgt (.inr ⟨d', l, rfl, hle⟩)
            have he : insL laneOf p d = (d' ++ [l]) ++ p :: d2 := Srt.uniq hsrt'.out hst.1 (hstb.out.symm.trans (by rw [hd]; exact hst.2))
            rw [htu.out, he]; simpa using hS
          have fz := fun o => hS.at_.frozen o
          replace hgt := hid hgt
          replace hd := hid hd
          replace hst := hid hst
          replace hsw := hid hsw
          replace hS := hid hS
          clear hL hL' hS' hJ
          obtain ⟨lv, lm⟩ := l
          obtain ⟨pv, pm⟩ := p
          simp only at e1 e2 hat1 hat2
          subst e1 e2
          have hA := hid hat1
          have hB := hid hat2
          obtain ⟨x0, x1, x2, x3, x4, hxl⟩ := hat1
          obtain ⟨y0, y1, y2, y3, y4, hyl⟩ := hat2
          have hcmp := hid (fun (w : World) (hk : KeyAt w kb) => cmp_c hk a2 a1 n2 c2 n1 c1 pm lm)
          have hkey := hid hkey
          have hdec := hid (cmpI_lt pm.lane lm.lane)
          replace hJ' := hid hJ'
          replace hJJ := hid hJJ
          replace hI := hid hI
          replace hdl := hid hdl
          replace hgj := hid hgj
          go_upto_region 4 with fail
          go_region_held3 (fun W => W.cell? ⟨g, J' * 5, none⟩ = some (.slice a1 n1 c1) ∧ W.cell? ⟨g, J' * 5 + 1, none⟩ = some (.int .i64 lm.lane) ∧ W.cell? ⟨g, J' * 5 + 2, none⟩ = some (.int .i64 lm.stamp) ∧ W.cell? ⟨g, J' * 5 + 3, none⟩ = some (.int .i64 lm.late) ∧ W.cell? ⟨g, J' * 5 + 4, none⟩ = some (.int .i64 lm.seq) ∧ W.cell? ⟨g, J * 5, none⟩ = some (.slice a2 n2 c2) ∧ W.cell? ⟨g, J * 5 + 1, none⟩ = some (.int .i64 pm.lane) ∧ W.cell? ⟨g, J * 5 + 2, none⟩ = some (.int .i64 pm.stamp) ∧ W.cell? ⟨g, J * 5 + 3, none⟩ = some (.int .i64 pm.late) ∧ W.cell? ⟨g, J * 5 + 4, none⟩ = some (.int .i64 pm.seq))
            (first | go_keep | ((try dsimp only); (repeat' apply And.intro) <;> go_keep))
            (first | (go_at_call 68; (with_reducible refine (hcmp.out wr.drew (hkey.out.of rfl)).mono ?_); rintro e w3 ⟨rfl, hb3⟩; replace hb3 := Below.ofDrew hb3; obtain ⟨u0, u1, u2, u3, u4, -⟩ := hA.out.below hb3; obtain ⟨v0, v1, v2, v3, v4, -⟩ := hB.out.below hb3; replace hb3 := hid hb3))
          rw [hdec.out]
          by_cases hlt2 : pm.lane < lm.lane
          · rw [decide_eq_true hlt2]
            have hsw3 : SortAt w0 (put5 (put5 w3 g (J * 5) (.slice a1 n1 c1, lm)) g (J' * 5) (.slice a2 n2 c2, pm)).drew g kb (x ++ d' ++ (.slice a2 n2 c2, pm) :: ((.slice a1 n1 c1, lm) :: d2) ++ (u.drop (k + 1) ++ y)) ex := by
              have h3 := hS.out.below hb3.out
              have hL : x ++ (d' ++ [(Value.slice a1 n1 c1, lm)]) ++ (Value.slice a2 n2 c2, pm) :: d2 ++ (u.drop (k + 1) ++ y) = (x ++ d') ++ (Value.slice a1 n1 c1, lm) :: [] ++ (Value.slice a2 n2 c2, pm) :: (d2 ++ (u.drop (k + 1) ++ y)) := by simp
              rw [hL] at h3
              obtain ⟨-, -, -, -, -, hsw⟩ := h3.two (i := J') (j := J) (by have := hJ'.out; simp; omega) (by have := hJ'.out; have := hJJ.out; simp; omega)
              simpa using hsw
            replace hsw3 := hid hsw3
            have hgt2 := hid (show ∀ q ∈ (Value.slice a1 n1 c1, lm) :: d2, laneOf (Value.slice a2 n2 c2, pm) < laneOf q from fun q hq => by rcases List.mem_cons.1 hq with rfl | hq; exact hlt2; exact hgt.out q hq)
            have fz3 := fun o => (hS.out.below hb3.out).at_.frozen o
            have hxl3 : g < w3.heap.size := Nat.lt_of_lt_of_le hxl hb3.out.size
            clear x0 x1 x2 x3 x4 y0 y1 y2 y3 y4 fz hdec hlt2
            go_upto_region 6 with fail
            go_region
            have hfin := hsw3.out
            unfold put5 at hfin
            simp only at hfin
            go_wp2
            go_roundg (d'.length)
            case rel => exact ⟨d', (Value.slice a1 n1 c1, lm) :: d2, J', by rw [hd.out]; simp, hJ'.out, hgt2.out, by have := hJJ.out; exact congrArg (Value.int .i64) (by omega), rfl, hfin⟩
            case measure => have := hgj.out; simp at this; omega
          · rw [decide_eq_false hlt2]
            have hS3 := hid ((hst.out (by unfold laneOf; simp only; omega)).below hb3.out)
            clear x0 x1 x2 x3 x4 y0 y1 y2 y3 y4 fz hdec hlt2
            go_wp2
            go_roundg (u.length - (k + 1))
            case rel => exact ⟨k + 1, I + 1, by omega, by omega, by have := hI.out; omega, by go_num, rfl, hS3.out⟩
            case measure => omega
    · have hge : decide (I < x.length + u.length) = false := by simp; omega
      have hfin2 := hfin.out wr (by rw [List.take_of_length_le (by omega), List.drop_of_length_le (by omega), List.append_nil] at hS; exact hS)
      replace hfin2 := hid hfin2
      clear hS
      go_wp2
      go_end0
      exact hfin2.out
end Go.Proofs.Ytggfallodkbgcaa.So

namespace Go.Proofs.Ytggfallodkbgcaa.So
set_option linter.unusedVariables false
set_option linter.unusedSimpArgs false
open Go.RowKit Go.Proofs.Ytggfallodkbgcaa.K Go.Proofs.Ytggfallodkbgcaa.Sp
theorem SortAt.getAt {w0 w : World} {g kb : Nat} {ex : List Value} {x z y : List (Value × Msg)} (h : SortAt w0 w g kb (x ++ z ++ y) ex) {i : Nat} (hi : i < z.length) {I : Nat} (hI : I = x.length + i) : ∃ a n c m, laneOf z[i] = m.lane ∧ At5 w g (I * 5) (.slice a n c) m := by
  subst hI
  have hl : x.length + i < (x ++ z ++ y).length := by simp; omega
  obtain ⟨a, n, c, e, hat⟩ := h.get hl
  have e2 : (x ++ z ++ y)[x.length + i] = z[i] := by
    rw [List.getElem_append_left (by simp; omega), List.getElem_append_right (by omega)]
    simp
  rw [e2] at hat
  exact ⟨a, n, c, z[i].2, rfl, hat⟩
theorem srt_take {l : List (Value × Msg)} {h : Nat} (hs : Srt laneOf l) (hl : h < l.length) {q : Value × Msg} (hq : q ∈ l.take (h + 1)) : laneOf q ≤ laneOf l[h] := by
  obtain ⟨i, hi, rfl⟩ := List.mem_iff_getElem.1 hq
  rw [List.getElem_take]
  exact hs.at_ (by simp at hi; omega) hl (by simp at hi; omega)
theorem srt_drop {l : List (Value × Msg)} {h : Nat} (hs : Srt laneOf l) (hl : h < l.length) {q : Value × Msg} (hq : q ∈ l.drop h) : laneOf l[h] ≤ laneOf q := by
  obtain ⟨i, hi, rfl⟩ := List.mem_iff_getElem.1 hq
  rw [List.getElem_drop]
  exact hs.at_ hl (by simp at hi; omega) (by omega)
section
variable {w0 w : World} {g kb : Nat} {ex : List Value} {x u v y : List (Value × Msg)} {n cap : Nat}
set_option maxHeartbeats 2000000 in
set_option maxRecDepth 100000 in
/-- One element ahead of a sorted row. -/
theorem symLeft_c {p : Value × Msg} (h : SortAt w0 w g kb (x ++ p :: v ++ y) ex) (hv : Srt laneOf v) (hn : n = (x ++ p :: v ++ y).length) (hc : n ≤ cap) (hm : n ≤ 1000000) (a m b : Int) (ha : a = x.length) (hmm : m = x.length + 1) (hb : b = x.length + 1 + v.length) :
    Calls Try.prog 86 #[.slice (some ⟨g, 0, none⟩) n cap, .int .i64 a, .int .i64 m, .int .i64 b, cmpV kb] w (SortPost w0 g kb ex x (p :: v) y) := by
  subst ha hmm hb
  have hnN : n = x.length + 1 + v.length + y.length := by rw [hn]; simp; omega
  have hbx : x.length + 1 + v.length ≤ 1000000 := by omega
  have hxn : x.length + 1 + v.length ≤ n := by omega
  have hfin := hid (fun w' i (hi : i ≤ v.length) (h1 : ∀ q ∈ v.take i, laneOf q < laneOf p) (h2 : ∀ q ∈ v.drop i, laneOf p ≤ laneOf q) (h : SortAt w0 w' g kb (x ++ v.take i ++ p :: (v.drop i ++ y)) ex) => show SortPost w0 g kb ex x (p :: v) y (.returned (.tuple #[])) w' from by
    refine ⟨rfl, ?_⟩
    have e : sortL laneOf (p :: v) = v.take i ++ p :: v.drop i := by
      refine (sortL_of ?_ ?_).symm
      · have h3 := (Stab.swap (key := laneOf) (u := [p]) (v := v.take i) (fun a ha b hb => by simp at ha; subst ha; exact h1 b hb)).app (Stab.refl (v.drop i))
        simpa using h3
      · exact (Srt.app (by have := hv; rw [← List.take_append_drop i v] at this; exact this.left) (List.pairwise_cons.2 ⟨h2, by have := hv; rw [← List.take_append_drop i v] at this; exact this.right⟩) (fun a ha b hb => by
          rcases List.mem_cons.1 hb with rfl | hb
          · exact Int.le_of_lt (h1 a ha)
          · exact Int.le_trans (Int.le_of_lt (h1 a ha)) (h2 b hb)))
    rw [e]; simpa using h)
  have hh := hid h
  replace hn := hid hn
  replace hnN := hid hnN
  replace hv := hid hv
  have e1 : IntKind.i64.wrap ((x.length : Int) + 1 - x.length) = 1 := by rw [show (x.length : Int) + 1 - x.length = 1 by omega]; exact IntWalk.i64_in _ (by omega)
  have e2 : (((x.length : Int) + 1 - x.length) == 1) = true := by rw [show (x.length : Int) + 1 - x.length = 1 by omega]; rfl
  clear h
  unfold cmpV
  go_enter Try.func86, Try.ntmps86
  go_wp2
  go_loopg [10, 11] v.length (fun gg si sj wr => ∃ (i j I J : Nat), I = x.length + 1 + i ∧ J = x.length + 1 + j ∧ i ≤ j ∧ j ≤ v.length ∧ si = .int .i64 I ∧ sj = .int .i64 J ∧ gg = j - i ∧ (∀ q ∈ v.take i, laneOf q < laneOf p) ∧ (∀ q ∈ v.drop j, laneOf p ≤ laneOf q) ∧ SortAt w0 wr g kb (x ++ p :: v ++ y) ex)
  case atStart => exact ⟨0, v.length, x.length + 1, x.length + 1 + v.length, rfl, rfl, by omega, by omega, by go_num, by go_num, rfl, by simp, by simp, hh.out⟩
  case round =>
    obtain ⟨i, j, I, J, hI, hJ, hij, hjl, rfl, rfl, hgg, hlo, hhi', hS⟩ := hrel
    by_cases hlt : i < j
    · have hIJ : I < J := by omega
      have hIb : I ≤ 1000000 := by omega
      have hJb : J ≤ 1000000 := by omega
      replace hI := hid hI
      replace hJ := hid hJ
      go_upto_region 5 with fail
      obtain ⟨H, hH⟩ : ∃ H : Nat, ((I : Int) + (J : Int)) / 2 = H := ⟨(I + J) / 2, by omega⟩
      rw [hH]
      have hH1 : I ≤ H := by omega
      have hH2 : H < J := by omega
      obtain ⟨h, hh0⟩ : ∃ h, H = x.length + 1 + h := ⟨H - (x.length + 1), by have := hI.out; omega⟩
      have hhi : i ≤ h := by have := hI.out; omega
      have hhj : h < j := by have := hJ.out; omega
      have hhv : h < v.length := by omega
      have hHn : H < n := by omega
      have hxn1 : x.length < n := by omega
      clear hH
      obtain ⟨a1, n1, c1, m1, hl1, hat1⟩ := hS.getAt (z := p :: v) (i := h + 1) (by simp; omega) (I := H) (by omega)
      obtain ⟨a2, n2, c2, m2, hl2, hat2⟩ := hS.getAt (z := p :: v) (i := 0) (by simp) (I := x.length) (by omega)
      simp only [List.getElem_cons_succ, List.getElem_cons_zero] at hl1 hl2
      replace hl1 := hid hl1
      replace hl2 := hid hl2
      replace hh0 := hid hh0
      replace hlo := hid hlo
      replace hhi' := hid hhi'
      replace hgg := hid hgg
      have hcmp := hid (fun (w : World) (hk : KeyAt w kb) => cmp_c hk a1 a2 n1 c1 n2 c2 m1 m2)
      have hkey := hid hS.keyAt
      have hA := hid hat1
      have hB := hid hat2
      obtain ⟨x0, x1, x2, x3, x4, hxl⟩ := hat1
      obtain ⟨y0, y1, y2, y3, y4, hyl⟩ := hat2
      replace hS := hid hS
      go_region_held3 (fun W => W.cell? ⟨g, H * 5, none⟩ = some (.slice a1 n1 c1) ∧ W.cell? ⟨g, H * 5 + 1, none⟩ = some (.int .i64 m1.lane) ∧ W.cell? ⟨g, H * 5 + 2, none⟩ = some (.int .i64 m1.stamp) ∧ W.cell? ⟨g, H * 5 + 3, none⟩ = some (.int .i64 m1.late) ∧ W.cell? ⟨g, H * 5 + 4, none⟩ = some (.int .i64 m1.seq) ∧ W.cell? ⟨g, x.length * 5, none⟩ = some (.slice a2 n2 c2) ∧ W.cell? ⟨g, x.length * 5 + 1, none⟩ = some (.int .i64 m2.lane) ∧ W.cell? ⟨g, x.length * 5 + 2, none⟩ = some (.int .i64 m2.stamp) ∧ W.cell? ⟨g, x.length * 5 + 3, none⟩ = some (.int .i64 m2.late) ∧ W.cell? ⟨g, x.length * 5 + 4, none⟩ = some (.int .i64 m2.seq))
        (first | go_keep | ((try dsimp only); (repeat' apply And.intro) <;> go_keep))
        (first | (go_at_call 68; (with_reducible refine (hcmp.out wr.drew (hkey.out.of rfl)).mono ?_); rintro e w3 ⟨rfl, hb3⟩; replace hb3 := Below.ofDrew hb3; obtain ⟨u0, u1, u2, u3, u4, -⟩ := hA.out.below hb3; obtain ⟨v0, v1, v2, v3, v4, -⟩ := hB.out.below hb3; replace hb3 := hid hb3))
      rw [cmpI_lt]
      clear x0 x1 x2 x3 x4 y0 y1 y2 y3 y4 u0 u1 u2 u3 u4 v0 v1 v2 v3 v4 hA hB hcmp hkey
      by_cases hlt2 : m1.lane < m2.lane
      · rw [decide_eq_true hlt2]
        have hlo2 := hid (show ∀ q ∈ v.take (h + 1), laneOf q < laneOf p from fun q hq => by have := srt_take hv.out hhv hq; rw [hl1.out] at this; rw [hl2.out]; omega)
        clear hlt2
        go_wp2
        go_roundg (j - (h + 1))
        case rel => exact ⟨h + 1, j, H + 1, J, by have := hh0.out; omega, hJ.out, by omega, hjl, by go_num, rfl, rfl, hlo2.out, hhi'.out, hS.out.below hb3.out⟩
        case measure => have := hgg.out; omega
      · rw [decide_eq_false hlt2]
        have hhi2 := hid (show ∀ q ∈ v.drop h, laneOf p ≤ laneOf q from fun q hq => by have := srt_drop hv.out hhv hq; rw [hl1.out] at this; rw [hl2.out]; omega)
        clear hlt2
        go_wp2
        go_roundg (h - i)
        case rel => exact ⟨i, h, I, H, hI.out, hh0.out, by omega, by omega, rfl, rfl, rfl, hlo.out, hhi2.out, hS.out.below hb3.out⟩
        case measure => have := hgg.out; omega
    · obtain rfl : i = j := by omega
      obtain rfl : I = J := by omega
      have hIb : I ≤ 1000000 := by omega
      have hI1 : x.length + 1 ≤ I := by omega
      have hlo := hid hlo
      have hhi' := hid hhi'
      replace hgg := hid hgg
      have hI' := hid hI
      replace hJ := hid hJ
      have hS := hid hS
      go_wp2
      go_loopg [13] i (fun gg sk wr => ∃ (k K : Nat), k ≤ i ∧ K = x.length + k ∧ sk = .int .i64 K ∧ gg = i - k ∧ SortAt w0 wr g kb (x ++ v.take k ++ p :: (v.drop k ++ y)) ex)
      case atStart => exact ⟨0, x.length, by omega, rfl, rfl, rfl, by simpa using hS.out⟩
      case round =>
        obtain ⟨k, K, hki, hK, rfl, hgk, hS2⟩ := hrel
        by_cases hlt2 : k < i
        · have hkv : k < v.length := by omega
          have hdv : v.drop k = v[k] :: v.drop (k + 1) := List.drop_eq_getElem_cons hkv
          have hL : x ++ v.take k ++ p :: (v.drop k ++ y) = (x ++ v.take k) ++ p :: [] ++ v[k] :: (v.drop (k + 1) ++ y) := by rw [hdv]; simp only [List.append_assoc, List.cons_append, List.nil_append]
          have hL' : x ++ v.take (k + 1) ++ p :: (v.drop (k + 1) ++ y) = (x ++ v.take k) ++ v[k] :: [] ++ p :: (v.drop (k + 1) ++ y) := by rw [List.take_succ_eq_append_getElem hkv]; simp only [List.append_assoc, List.cons_append, List.nil_append]
          rw [hL] at hS2
          obtain ⟨⟨a1, n1, c1, e1⟩, ⟨a2, n2, c2, e2⟩, ⟨x0, x1, x2, x3, x4, hxl⟩, ⟨y0, y1, y2, y3, y4, hyl⟩, hsw, -⟩ := hS2.two (i := K) (j := K + 1) (by simp; omega) (by simp; omega)
          rw [← hL'] at hsw
          have fz := fun o => hS2.at_.frozen o
          replace hsw := hid hsw
          clear hdv hL hL' hS2
          have hK1 : K < I - 1 := by omega
          have hK2 : K + 1 < n := by omega
          have hK3 : (K : Int) + 1 < n := by omega
          have hK4 : (K : Int) < (I : Int) - 1 := by omega
          have hK5 : ((K : Int) + 1).toNat = K + 1 := by omega
          have hK6 : (K : Int) + 1 < I := by omega
          have hK7 : K + 1 < I := by omega
          replace hK := hid hK
          clear hI
          generalize v[k] = q at *
          obtain ⟨pv, pm⟩ := p
          obtain ⟨qv, qm⟩ := q
          simp only at e1 e2 x0 x1 x2 x3 x4 y0 y1 y2 y3 y4
          subst e1 e2
          go_upto_region 11 with fail
          go_region
          have hfin2 := hsw.out
          unfold put5 at hfin2
          simp only at hfin2
          go_wp2
          go_roundg (i - (k + 1))
          case rel => exact ⟨k + 1, K + 1, by omega, by have := hK.out; omega, by go_num, rfl, hfin2⟩
          case measure => omega
        · obtain rfl : k = i := by omega
          have hK1 : (I : Int) - 1 ≤ K := by omega
          have hK2 : (I : Int) ≤ (K : Int) + 1 := by omega
          have hK3 : I ≤ K + 1 := by omega
          have hf := hfin.out wr k (by omega) hlo.out hhi'.out hS2
          replace hf := hid hf
          clear hS2 hI hK
          go_wp2
          go_end0
          exact hf.out
set_option maxHeartbeats 2000000 in
set_option maxRecDepth 100000 in
/-- One element behind a sorted row. -/
theorem symRight_c {p : Value × Msg} (h : SortAt w0 w g kb (x ++ (u ++ [p]) ++ y) ex) (hu : Srt laneOf u) (hu2 : 2 ≤ u.length) (hn : n = (x ++ (u ++ [p]) ++ y).length) (hc : n ≤ cap) (hm : n ≤ 1000000) (a m b : Int) (ha : a = x.length) (hmm : m = x.length + u.length) (hb : b = x.length + u.length + 1) :
    Calls Try.prog 86 #[.slice (some ⟨g, 0, none⟩) n cap, .int .i64 a, .int .i64 m, .int .i64 b, cmpV kb] w (SortPost w0 g kb ex x (u ++ [p]) y) := by
  subst ha hb
  have hnN : n = x.length + u.length + 1 + y.length := by rw [hn]; simp; omega
  generalize hM : x.length + u.length = M at hmm hnN
  have hmm2 : m = (M : Int) := by rw [← hM]; simpa using hmm
  subst hmm2
  have hbx : M + 1 ≤ 1000000 := by omega
  have hxn : M + 1 ≤ n := by omega
  have hxM : x.length + 2 ≤ M := by omega
  have hfin := hid (fun w' i (hi : i ≤ u.length) (h1 : ∀ q ∈ u.take i, laneOf q ≤ laneOf p) (h2 : ∀ q ∈ u.drop i, laneOf p < laneOf q) (h : SortAt w0 w' g kb (x ++ u.take i ++ p :: (u.drop i ++ y)) ex) => show SortPost w0 g kb ex x (u ++ [p]) y (.returned (.tuple #[])) w' from by
    refine ⟨rfl, ?_⟩
    have e : sortL laneOf (u ++ [p]) = u.take i ++ p :: u.drop i := by
      refine (sortL_of ?_ ?_).symm
      · have h3 := (Stab.refl (key := laneOf) (u.take i)).app (Stab.swap (key := laneOf) (u := u.drop i) (v := [p]) (fun a ha b hb => by simp at hb; subst hb; exact h2 a ha))
        rw [← List.append_assoc, List.take_append_drop] at h3
        simpa using h3
      · exact (Srt.app (by have := hu; rw [← List.take_append_drop i u] at this; exact this.left) (List.pairwise_cons.2 ⟨fun q hq => Int.le_of_lt (h2 q hq), by have := hu; rw [← List.take_append_drop i u] at this; exact this.right⟩) (fun a ha b hb => by
          rcases List.mem_cons.1 hb with rfl | hb
          · exact h1 a ha
          · exact Int.le_trans (h1 a ha) (Int.le_of_lt (h2 b hb))))
    rw [e]; simpa using h)
  have hh := hid h
  replace hn := hid hn
  replace hnN := hid hnN
  replace hu := hid hu
  have hulM : u.length ≤ M := by omega
  have hb3 : ((x.length : Int) + u.length + 1) = (M : Int) + 1 := by omega
  rw [hb3]
  clear hb3 hmm
  replace hM := hid hM
  have e2 : (((M : Int) - x.length) == 1) = false := by rw [beq_eq_false_iff_ne]; omega
  have e3 : (((M : Int) + 1 - M) == 1) = true := by rw [beq_iff_eq]; omega
  have e4 : (M : Int) + 1 - M = 1 := by omega
  clear h
  unfold cmpV
  go_enter Try.func86, Try.ntmps86
  go_wp2
  go_loopg [14, 15] u.length (fun gg si sj wr => ∃ (i j I J : Nat), I = x.length + i ∧ J = x.length + j ∧ i ≤ j ∧ j ≤ u.length ∧ si = .int .i64 I ∧ sj = .int .i64 J ∧ gg = j - i ∧ (∀ q ∈ u.take i, laneOf q ≤ laneOf p) ∧ (∀ q ∈ u.drop j, laneOf p < laneOf q) ∧ SortAt w0 wr g kb (x ++ (u ++ [p]) ++ y) ex)
  case atStart => exact ⟨0, u.length, x.length, M, rfl, hM.out.symm, by omega, by omega, rfl, rfl, rfl, by simp, by simp, hh.out⟩
  case round =>
    obtain ⟨i, j, I, J, hI, hJ, hij, hjl, rfl, rfl, hgg, hlo, hhi', hS⟩ := hrel
    by_cases hlt : i < j
    · have hIJ : I < J := by omega
      have hJM : J ≤ M := by have := hM.out; omega
      have hIb : I ≤ 1000000 := by omega
      have hJb : J ≤ 1000000 := by omega
      replace hI := hid hI
      replace hJ := hid hJ
      go_upto_region 17 with fail
      obtain ⟨H, hH⟩ : ∃ H : Nat, ((I : Int) + (J : Int)) / 2 = H := ⟨(I + J) / 2, by omega⟩
      rw [hH]
      have hH1 : I ≤ H := by omega
      have hH2 : H < J := by omega
      obtain ⟨h, hh0⟩ : ∃ h, H = x.length + h := ⟨H - x.length, by have := hI.out; omega⟩
      have hhi : i ≤ h := by have := hI.out; omega
      have hhj : h < j := by have := hJ.out; omega
      have hhv : h < u.length := by omega
      have hHn : H < n := by omega
      have hMn : M < n := by omega
      clear hH
      obtain ⟨a1, n1, c1, m1, hl1, hat1⟩ := hS.getAt (z := u ++ [p]) (i := u.length) (by simp) (I := M) hM.out.symm
      obtain ⟨a2, n2, c2, m2, hl2, hat2⟩ := hS.getAt (z := u ++ [p]) (i := h) (by simp; omega) (I := H) (by omega)
      rw [List.getElem_append_left hhv] at hl2
      simp only [List.getElem_concat_length] at hl1
      replace hl1 := hid hl1
      replace hl2 := hid hl2
      replace hh0 := hid hh0
      replace hlo := hid hlo
      replace hhi' := hid hhi'
      replace hgg := hid hgg
      have hcmp := hid (fun (w : World) (hk : KeyAt w kb) => cmp_c hk a1 a2 n1 c1 n2 c2 m1 m2)
      have hkey := hid hS.keyAt
      have hA := hid hat1
      have hB := hid hat2
      obtain ⟨x0, x1, x2, x3, x4, hxl⟩ := hat1
      obtain ⟨y0, y1, y2, y3, y4, hyl⟩ := hat2
      replace hS := hid hS
      go_region_held3 (fun W => W.cell? ⟨g, M * 5, none⟩ = some (.slice a1 n1 c1) ∧ W.cell? ⟨g, M * 5 + 1, none⟩ = some (.int .i64 m1.lane) ∧ W.cell? ⟨g, M * 5 + 2, none⟩ = some (.int .i64 m1.stamp) ∧ W.cell? ⟨g, M * 5 + 3, none⟩ = some (.int .i64 m1.late) ∧ W.cell? ⟨g, M * 5 + 4, none⟩ = some (.int .i64 m1.seq) ∧ W.cell? ⟨g, H * 5, none⟩ = some (.slice a2 n2 c2) ∧ W.cell? ⟨g, H * 5 + 1, none⟩ = some (.int .i64 m2.lane) ∧ W.cell? ⟨g, H * 5 + 2, none⟩ = some (.int .i64 m2.stamp) ∧ W.cell? ⟨g, H * 5 + 3, none⟩ = some (.int .i64 m2.late) ∧ W.cell? ⟨g, H * 5 + 4, none⟩ = some (.int .i64 m2.seq))
        (first | go_keep | ((try dsimp only); (repeat' apply And.intro) <;> go_keep))
        (first | (go_at_call 68; (with_reducible refine (hcmp.out wr.drew (hkey.out.of rfl)).mono ?_); rintro e w3 ⟨rfl, hb3⟩; replace hb3 := Below.ofDrew hb3; obtain ⟨u0, u1, u2, u3, u4, -⟩ := hA.out.below hb3; obtain ⟨v0, v1, v2, v3, v4, -⟩ := hB.out.below hb3; replace hb3 := hid hb3))
      rw [cmpI_lt]
      clear x0 x1 x2 x3 x4 y0 y1 y2 y3 y4 u0 u1 u2 u3 u4 v0 v1 v2 v3 v4 hA hB hcmp hkey
      by_cases hlt2 : m1.lane < m2.lane
      · rw [decide_eq_true hlt2]
        have hhi2 := hid (show ∀ q ∈ u.drop h, laneOf p < laneOf q from fun q hq => by have := srt_drop hu.out hhv hq; rw [hl2.out] at this; rw [hl1.out]; omega)
        clear hlt2
        go_wp2
        go_roundg (h - i)
        case rel => exact ⟨i, h, I, H, hI.out, hh0.out, by omega, by omega, rfl, rfl, rfl, hlo.out, hhi2.out, hS.out.below hb3.out⟩
        case measure => have := hgg.out; omega
      · rw [decide_eq_false hlt2]
        have hlo2 := hid (show ∀ q ∈ u.take (h + 1), laneOf q ≤ laneOf p from fun q hq => by have := srt_take hu.out hhv hq; rw [hl2.out] at this; rw [hl1.out]; omega)
        clear hlt2
        go_wp2
        go_roundg (j - (h + 1))
        case rel => exact ⟨h + 1, j, H + 1, J, by have := hh0.out; omega, hJ.out, by omega, hjl, by go_num, rfl, rfl, hlo2.out, hhi'.out, hS.out.below hb3.out⟩
        case measure => have := hgg.out; omega
    · obtain rfl : i = j := by omega
      obtain rfl : I = J := by omega
      have hIM : I ≤ M := by have := hM.out; omega
      have hIb : I ≤ 1000000 := by omega
      have hlo := hid hlo
      have hhi' := hid hhi'
      replace hgg := hid hgg
      have hI' := hid hI
      replace hJ := hid hJ
      have hS := hid hS
      go_wp2
      go_loopg [17] (u.length - i) (fun gg sk wr => ∃ (k K : Nat), i ≤ k ∧ k ≤ u.length ∧ K = x.length + k ∧ sk = .int .i64 K ∧ gg = k - i ∧ SortAt w0 wr g kb (x ++ u.take k ++ p :: (u.drop k ++ y)) ex)
      case atStart => exact ⟨u.length, M, hjl, by omega, hM.out.symm, rfl, rfl, by simpa using hS.out⟩
      case round =>
        obtain ⟨k, K, hki, hku, hK, rfl, hgk, hS2⟩ := hrel
        by_cases hlt2 : i < k
        · obtain ⟨k', hk'⟩ : ∃ k', k = k' + 1 := ⟨k - 1, by omega⟩
          obtain ⟨K', hK'⟩ : ∃ K', K = K' + 1 := ⟨K - 1, by omega⟩
          subst hk'
          have hkv : k' < u.length := by omega
          have hdv : u.drop k' = u[k'] :: u.drop (k' + 1) := List.drop_eq_getElem_cons hkv
          have hL : x ++ u.take (k' + 1) ++ p :: (u.drop (k' + 1) ++ y) = (x ++ u.take k') ++ u[k'] :: [] ++ p :: (u.drop (k' + 1) ++ y) := by rw [List.take_succ_eq_append_getElem hkv]; simp only [List.append_assoc, List.cons_append, List.nil_append]
          have hL' : x ++ u.take k' ++ p :: (u.drop k' ++ y) = (x ++ u.take k') ++ p :: [] ++ u[k'] :: (u.drop (k' + 1) ++ y) := by rw [hdv]; simp only [List.append_assoc, List.cons_append, List.nil_append]
          rw [hL] at hS2
          obtain ⟨⟨a1, n1, c1, e1⟩, ⟨a2, n2, c2, e2⟩, ⟨x0, x1, x2, x3, x4, hxl⟩, ⟨y0, y1, y2, y3, y4, hyl⟩, -, hsw⟩ := hS2.two (i := K') (j := K) (by simp; omega) (by simp; omega)
          rw [← hL'] at hsw
          have fz := fun o => hS2.at_.frozen o
          replace hsw := hid hsw
          clear hdv hL hL' hS2
          have hK1 : I < K := by omega
          have hK2 : K < n := by have := hnN.out; have := hM.out; omega
          have hKM : K ≤ 1000000 := by omega
          have hj2 : (K : Int) - 1 < n := by omega
          have hj3 : (0 : Int) ≤ (K : Int) - 1 := by omega
          have hj4 : 1 ≤ K := by omega
          have hj5 : ((K : Int) - 1).toNat = K' := by omega
          have hj6 : (1 : Int) ≤ K := by omega
          have hj7 : (K : Int) ≤ n := by omega
          replace hK := hid hK
          replace hK' := hid hK'
          clear hI
          generalize u[k'] = q at *
          obtain ⟨pv, pm⟩ := p
          obtain ⟨qv, qm⟩ := q
          simp only at e1 e2 x0 x1 x2 x3 x4 y0 y1 y2 y3 y4
          subst e1 e2
          go_upto_region 23 with fail
          go_region
          have hfin2 := hsw.out
          unfold put5 at hfin2
          simp only at hfin2
          go_wp2
          go_roundg (k' - i)
          case rel => exact ⟨k', K', by omega, by omega, by have := hK.out; have := hK'.out; omega, by have := hK'.out; exact congrArg (Value.int .i64) (by omega), rfl, hfin2⟩
          case measure => omega
        · obtain rfl : k = i := by omega
          have hK3 : K ≤ I := by omega
          have hf := hfin.out wr k (by omega) hlo.out hhi'.out hS2
          replace hf := hid hf
          clear hS2 hI hK
          go_wp2
          go_end0
          exact hf.out
end
end Go.Proofs.Ytggfallodkbgcaa.So

namespace Go.Proofs.Ytggfallodkbgcaa.So
set_option linter.unusedVariables false
set_option linter.unusedSimpArgs false
open Go.RowKit Go.Proofs.Ytggfallodkbgcaa.K Go.Proofs.Ytggfallodkbgcaa.Sp Go.Proofs.Ytggfallodkbgcaa.Lb
/-- The joining of two sorted rows of fewer than N messages. -/
def SymOk (N : Nat) : Prop := ∀ (w0 w : World) (g kb : Nat) (ex : List Value) (x u v y : List (Value × Msg)) (n cap : Nat) (a m b : Int), u.length + v.length < N → SortAt w0 w g kb (x ++ (u ++ v) ++ y) ex → Srt laneOf u → Srt laneOf v → 0 < u.length → 0 < v.length → n = (x ++ (u ++ v) ++ y).length → n ≤ cap → n ≤ 1000000 →
  a = x.length → m = x.length + u.length → b = x.length + u.length + v.length → Calls Try.prog 86 #[.slice (some ⟨g, 0, none⟩) n cap, .int .i64 a, .int .i64 m, .int .i64 b, cmpV kb] w (SortPost w0 g kb ex x (u ++ v) y)
theorem sym_split {u v : List (Value × Msg)} (hu : Srt laneOf u) (hv : Srt laneOf v) {i j : Nat} (hi : i ≤ u.length) (hj : j ≤ v.length) (h1 : ∀ (a : i < u.length) (b : 0 < j), laneOf (v[j - 1]'(by omega)) < laneOf u[i]) (h2 : ∀ (a : 0 < i) (b : j < v.length), laneOf (u[i - 1]'(by omega)) ≤ laneOf v[j]) :
    (∀ q ∈ u.drop i, ∀ r ∈ v.take j, laneOf r < laneOf q) ∧ (∀ q ∈ u.take i, ∀ r ∈ v.drop j, laneOf q ≤ laneOf r) := by
  refine ⟨fun q hq r hr => ?_, fun q hq r hr => ?_⟩
  · have hiu : i < u.length := by have := List.length_pos_of_mem hq; simp at this; omega
    have hj0 : 0 < j := by have := List.length_pos_of_mem hr; simp at this; omega
    have e1 := srt_drop hu hiu hq
    have e2 : laneOf r ≤ laneOf (v[j - 1]'(by omega)) := srt_take hv (by omega) (by rwa [show j - 1 + 1 = j by omega])
    have := h1 hiu hj0
    omega
  · have hi0 : 0 < i := by have := List.length_pos_of_mem hq; simp at this; omega
    have hjv : j < v.length := by have := List.length_pos_of_mem hr; simp at this; omega
    have e1 := srt_drop hv hjv hr
    have e2 : laneOf q ≤ laneOf (u[i - 1]'(by omega)) := srt_take hu (by omega) (by rwa [show i - 1 + 1 = i by omega])
    have := h2 hi0 hjv
    omega
/-- A message's lane by its place. -/
def La (l : List (Value × Msg)) (i : Nat) : Int := if h : i < l.length then laneOf l[i] else 0
theorem La_eq {l : List (Value × Msg)} {i : Nat} (h : i < l.length) : La l i = laneOf l[i] := by unfold La; rw [dif_pos h]
theorem La_mono {l : List (Value × Msg)} (hs : Srt laneOf l) {i j : Nat} (hij : i ≤ j) (hj : j < l.length) : La l i ≤ La l j := by
  rw [La_eq (by omega), La_eq hj]; exact hs.at_ (by omega) hj hij
theorem sym_split' {u v : List (Value × Msg)} (hu : Srt laneOf u) (hv : Srt laneOf v) {i j : Nat} (hi : i ≤ u.length) (hj : j ≤ v.length) (h1 : i < u.length → 0 < j → La v (j - 1) < La u i) (h2 : 0 < i → j < v.length → La u (i - 1) ≤ La v j) :
    sortL laneOf (u ++ v) = sortL laneOf (u.take i ++ v.take j) ++ sortL laneOf (u.drop i ++ v.drop j) := by
  obtain ⟨k1, k2⟩ := sym_split hu hv hi hj (fun a b => by have := h1 a b; rwa [La_eq (by omega), La_eq (by omega)] at this) (fun a b => by have := h2 a b; rwa [La_eq (by omega), La_eq (by omega)] at this)
  have hj := sym_join (key := laneOf) (u1 := u.take i) (u2 := u.drop i) (v1 := v.take j) (v2 := v.drop j) (by rw [List.take_append_drop]; exact hu) (by rw [List.take_append_drop]; exact hv) k1 k2 (sortL_stab _) (sortL_srt _) (sortL_stab _) (sortL_srt _)
  rw [List.take_append_drop, List.take_append_drop] at hj
  exact (sortL_of hj.1 hj.2).symm
set_option maxHeartbeats 4000000 in
set_option maxRecDepth 100000 in
theorem sym_step (N : Nat) (ih : Hid (SymOk N)) {w0 w : World} {g kb : Nat} {ex : List Value} {x u v y : List (Value × Msg)} {n cap : Nat} (hN : u.length + v.length ≤ N) (h : SortAt w0 w g kb (x ++ (u ++ v) ++ y) ex) (hu : Srt laneOf u) (hv : Srt laneOf v) (hu2 : 2 ≤ u.length) (hv2 : 2 ≤ v.length) (hn : n = (x ++ (u ++ v) ++ y).length) (hc : n ≤ cap) (hm : n ≤ 1000000) (a m b : Int) (ha : a = x.length) (hmm : m = x.length + u.length) (hb : b = x.length + u.length + v.length) :
    Calls Try.prog 86 #[.slice (some ⟨g, 0, none⟩) n cap, .int .i64 a, .int .i64 m, .int .i64 b, cmpV kb] w (SortPost w0 g kb ex x (u ++ v) y) := by
  have hnN : n = x.length + u.length + v.length + y.length := by rw [hn]; simp; omega
  obtain ⟨A, hA⟩ : ∃ A, A = x.length := ⟨_, rfl⟩
  obtain ⟨M, hM⟩ : ∃ M, M = x.length + u.length := ⟨_, rfl⟩
  obtain ⟨B, hB⟩ : ∃ B, B = x.length + u.length + v.length := ⟨_, rfl⟩
  have ha' : a = (A : Int) := by omega
  have hm' : m = (M : Int) := by omega
  have hb' : b = (B : Int) := by omega
  subst ha' hm' hb'
  clear ha hmm hb
  have hBn : B ≤ n := by omega
  have hB1 : B ≤ 1000000 := by omega
  have hAM : A + 2 ≤ M := by omega
  have hMB : M + 2 ≤ B := by omega
  have hh := hid h
  replace hn := hid hn
  replace hnN := hid hnN
  replace hu := hid hu
  replace hv := hid hv
  have hA' := hid hA
  have hM' := hid hM
  have hB' := hid hB
  have hN' := hid hN
  clear h hA hM hB hN
  have e2 : (((M : Int) - A) == 1) = false := by rw [beq_eq_false_iff_ne]; omega
  have e3 : (((B : Int) - M) == 1) = false := by rw [beq_eq_false_iff_ne]; omega
  unfold cmpV
  go_enter Try.func86, Try.ntmps86
  go_upto_if 140 with fail
  obtain ⟨D, hD⟩ : ∃ D : Nat, ((A : Int) + (B : Int)) / 2 = D := ⟨(A + B) / 2, by omega⟩
  rw [hD]
  have hD1 : A + B ≤ 2 * D + 1 := by omega
  have hD2 : 2 * D ≤ A + B := by omega
  clear hD
  go_cut [20, 21] (fun vs vr wx => wx = w ∧ ∃ S0 R0 : Nat, vs = .int .i64 S0 ∧ vr = .int .i64 R0 ∧ ((S0 = A ∧ R0 = M ∧ M ≤ D) ∨ (S0 + B = D + M ∧ R0 = D ∧ D < M)))
  case first =>
    by_cases hmid : D < M
    · have hs1 : (D : Int) + M - B = ((D + M - B : Nat) : Int) := by omega
      go_wp2
      go_meet
      case rel => exact ⟨rfl, D + M - B, D, rfl, rfl, .inr ⟨by omega, rfl, hmid⟩⟩
    · go_wp2
      go_meet
      case rel => exact ⟨rfl, A, M, rfl, rfl, .inl ⟨rfl, rfl, by omega⟩⟩
  case rest =>
    obtain ⟨rfl, S0, R0, rfl, rfl, hcase⟩ := hcut
    have hSR : S0 ≤ R0 := by omega
    have hAS : A ≤ S0 := by omega
    have hRM : R0 ≤ M := by omega
    have hcase' := hid hcase
    clear hcase
    go_wp2
    go_loopg [20, 21] (R0 - S0) (fun gg vs vr wr => ∃ S R : Nat, S0 ≤ S ∧ S ≤ R ∧ R ≤ R0 ∧ vs = .int .i64 S ∧ vr = .int .i64 R ∧ gg = R - S ∧ (∀ c, S0 ≤ c → c < S → La u (c - A) ≤ La v (D + M - 1 - c - M)) ∧ (∀ c, R ≤ c → c < R0 → La v (D + M - 1 - c - M) < La u (c - A)) ∧ SortAt w0 wr g kb (x ++ (u ++ v) ++ y) ex)
    case atStart => exact ⟨S0, R0, by omega, hSR, by omega, rfl, rfl, rfl, fun c h1 h2 => by omega, fun c h1 h2 => by omega, hh.out⟩
    case round =>
      obtain ⟨S, R, hS0, hSRr, hRR, rfl, rfl, hgg, hlo, hhi, hS⟩ := hrel
      by_cases hlt : S < R
      · go_upto_region 35 with fail
        obtain ⟨C, hC⟩ : ∃ C : Nat, ((S : Int) + (R : Int)) / 2 = C := ⟨(S + R) / 2, by omega⟩
        rw [hC]
        have hC1 : S ≤ C := by omega
        have hC2 : C < R := by omega
        clear hC
        have hcs := hcase'.out
        have hA := hA'.out
        have hM := hM'.out
        have hB := hB'.out
        obtain ⟨Q, hQ⟩ : ∃ Q : Nat, (D : Int) + M - 1 - C = Q := ⟨D + M - 1 - C, by omega⟩
        have hQ1 : M ≤ Q := by omega
        have hQ2 : Q < B := by omega
        have hCu : C - A < u.length := by omega
        have hQv : Q - M < v.length := by omega
        obtain ⟨a1, n1, c1, m1, hl1, hat1⟩ := hS.getAt (z := u ++ v) (i := u.length + (Q - M)) (by simp; omega) (I := Q) (by omega)
        obtain ⟨a2, n2, c2, m2, hl2, hat2⟩ := hS.getAt (z := u ++ v) (i := C - A) (by simp; omega) (I := C) (by omega)
        rw [List.getElem_append_left hCu] at hl2
        rw [List.getElem_append_right (by omega)] at hl1
        have hl1 : La v (Q - M) = m1.lane := by rw [La_eq hQv, ← hl1]; congr 2; omega
        have hl2 : La u (C - A) = m2.lane := by rw [La_eq hCu, ← hl2]
        have hQe : D + M - 1 - C - M = Q - M := by omega
        have hlo' : m2.lane ≤ m1.lane → ∀ c, S0 ≤ c → c < C + 1 → La u (c - A) ≤ La v (D + M - 1 - c - M) := fun hle c h1 h2 => by
          have k1 := La_mono hu.out (show c - A ≤ C - A by omega) hCu
          have k2 := La_mono hv.out (show Q - M ≤ D + M - 1 - c - M by omega) (by omega)
          omega
        have hhi' : m1.lane < m2.lane → ∀ c, C ≤ c → c < R0 → La v (D + M - 1 - c - M) < La u (c - A) := fun hle c h1 h2 => by
          have k1 := La_mono hu.out (show C - A ≤ c - A by omega) (by omega)
          have k2 := La_mono hv.out (show D + M - 1 - c - M ≤ Q - M by omega) hQv
          omega
        have hCM : C ≤ M := by omega
        have hCn : C < n := by omega
        have hQn : Q < n := by omega
        have hwr1 : IntKind.i64.wrap ((D : Int) + M - 1 - C) = Q := by rw [hQ]; exact IntWalk.i64_in _ (by omega)
        clear hQ hcs hA hM hB hl1 hl2 hQe
        replace hlo := hid hlo
        replace hhi := hid hhi
        replace hlo' := hid hlo'
        replace hhi' := hid hhi'
        replace hgg := hid hgg
        have hcmp := hid (fun (w : World) (hk : KeyAt w kb) => cmp_c hk a1 a2 n1 c1 n2 c2 m1 m2)
        have hkey := hid hS.keyAt
        have hA := hid hat1
        have hB := hid hat2
        obtain ⟨x0, x1, x2, x3, x4, hxl⟩ := hat1
        obtain ⟨y0, y1, y2, y3, y4, hyl⟩ := hat2
        replace hS := hid hS
        go_region_held3 (fun W => W.cell? ⟨g, Q * 5, none⟩ = some (.slice a1 n1 c1) ∧ W.cell? ⟨g, Q * 5 + 1, none⟩ = some (.int .i64 m1.lane) ∧ W.cell? ⟨g, Q * 5 + 2, none⟩ = some (.int .i64 m1.stamp) ∧ W.cell? ⟨g, Q * 5 + 3, none⟩ = some (.int .i64 m1.late) ∧ W.cell? ⟨g, Q * 5 + 4, none⟩ = some (.int .i64 m1.seq) ∧ W.cell? ⟨g, C * 5, none⟩ = some (.slice a2 n2 c2) ∧ W.cell? ⟨g, C * 5 + 1, none⟩ = some (.int .i64 m2.lane) ∧ W.cell? ⟨g, C * 5 + 2, none⟩ = some (.int .i64 m2.stamp) ∧ W.cell? ⟨g, C * 5 + 3, none⟩ = some (.int .i64 m2.late) ∧ W.cell? ⟨g, C * 5 + 4, none⟩ = some (.int .i64 m2.seq))
          (first | go_keep | ((try dsimp only); (repeat' apply And.intro) <;> go_keep))
          (first | (go_at_call 68; (with_reducible refine (hcmp.out wr.drew (hkey.out.of rfl)).mono ?_); rintro e w3 ⟨rfl, hb3⟩; replace hb3 := Below.ofDrew hb3; obtain ⟨u0, u1, u2, u3, u4, -⟩ := hA.out.below hb3; obtain ⟨v0, v1, v2, v3, v4, -⟩ := hB.out.below hb3; replace hb3 := hid hb3))
        rw [cmpI_lt]
        clear x0 x1 x2 x3 x4 y0 y1 y2 y3 y4 u0 u1 u2 u3 u4 v0 v1 v2 v3 v4 hA hB hcmp hkey
        by_cases hlt2 : m1.lane < m2.lane
        · rw [decide_eq_true hlt2]
          replace hhi' := hid (hhi'.out hlt2)
          clear hlt2
          go_wp2
          go_roundg (C - S)
          case rel => exact ⟨S, C, hS0, hC1, by omega, rfl, rfl, rfl, hlo.out, hhi'.out, hS.out.below hb3.out⟩
          case measure => have := hgg.out; omega
        · rw [decide_eq_false hlt2]
          replace hlo' := hid (hlo'.out (by omega))
          clear hlt2
          go_wp2
          go_roundg (R - (C + 1))
          case rel => exact ⟨C + 1, R, by omega, by omega, hRR, by go_num, rfl, rfl, hlo'.out, hhi.out, hS.out.below hb3.out⟩
          case measure => have := hgg.out; omega
      · obtain rfl : S = R := by omega
        have hcs := hcase'.out
        have hA := hA'.out
        have hM := hM'.out
        have hB := hB'.out
        obtain ⟨E, hE⟩ : ∃ E : Nat, (D : Int) + M - S = E := ⟨D + M - S, by omega⟩
        have hEM : M ≤ E := by omega
        have hEB : E ≤ B := by omega
        have hSM : S ≤ M := by omega
        have hSA : A ≤ S := by omega
        have hEn : E = D + M - S := by omega
        have hi : S - A ≤ u.length := by omega
        have hj : E - M ≤ v.length := by omega
        have hspl := sym_split' hu.out hv.out hi hj (fun a b => by
          have := hhi S (Nat.le_refl _) (by omega)
          rwa [show D + M - 1 - S - M = E - M - 1 by omega] at this) (fun a b => by
          have := hlo (S - 1) (by omega) (by omega)
          rwa [show D + M - 1 - (S - 1) - M = E - M by omega, show S - 1 - A = S - A - 1 by omega] at this)
        have hwr1 : IntKind.i64.wrap ((D : Int) + M - S) = E := by rw [hE]; exact IntWalk.i64_in _ (by omega)
        have hu1 : u = u.take (S - A) ++ u.drop (S - A) := (List.take_append_drop _ _).symm
        have hv1 : v = v.take (E - M) ++ v.drop (E - M) := (List.take_append_drop _ _).symm
        have lu1 : (u.take (S - A)).length = S - A := by simp; omega
        have lu2 : (u.drop (S - A)).length = M - S := by simp; omega
        have lv1 : (v.take (E - M)).length = E - M := by simp; omega
        have lv2 : (v.drop (E - M)).length = B - E := by simp; omega
        have su1 : Srt laneOf (u.take (S - A)) := by have := hu.out; rw [hu1] at this; exact this.left
        have su2 : Srt laneOf (u.drop (S - A)) := by have := hu.out; rw [hu1] at this; exact this.right
        have sv1 : Srt laneOf (v.take (E - M)) := by have := hv.out; rw [hv1] at this; exact this.left
        have sv2 : Srt laneOf (v.drop (E - M)) := by have := hv.out; rw [hv1] at this; exact this.right
        have hfin : ∀ w', SortAt w0 w' g kb (x ++ sortL laneOf (u.take (S - A) ++ v.take (E - M)) ++ sortL laneOf (u.drop (S - A) ++ v.drop (E - M)) ++ y) ex → SortPost w0 g kb ex x (u ++ v) y (.returned (.tuple #[])) w' := fun w' h => ⟨rfl, by rw [hspl, ← List.append_assoc]; exact h⟩
        have hS1 : SortAt w0 wr g kb (x ++ (u.take (S - A) ++ u.drop (S - A) ++ (v.take (E - M) ++ v.drop (E - M))) ++ y) ex := by rw [← hu1, ← hv1]; exact hS
        have hNN := hN'.out
        clear hspl hS hlo hhi hu1 hv1
        generalize u.take (S - A) = u1 at *
        generalize u.drop (S - A) = u2 at *
        generalize v.take (E - M) = v1 at *
        generalize v.drop (E - M) = v2 at *
        have hSD : S + E = D + M := by omega
        have hDn : D ≤ 1000000 := by omega
        have hSB : S ≤ 1000000 := by omega
        have hnn := hnN.out
        have hS2 := hid (fun (w' : World) (h : SortAt w0 w' g kb (x ++ (u1 ++ u2 ++ (v1 ++ v2)) ++ y) ex) (he : u2 = [] ∨ v1 = []) => show SortAt w0 w' g kb (x ++ (u1 ++ v1) ++ (u2 ++ v2 ++ y)) ex from by rcases he with rfl | rfl <;> simpa using h)
        have hS3 := hid (fun (w' : World) (h : SortAt w0 w' g kb (x ++ (u1 ++ v1) ++ (u2 ++ v2 ++ y)) ex) (he : u1 = [] ∨ v1 = []) => show SortAt w0 w' g kb (x ++ sortL laneOf (u1 ++ v1) ++ (u2 ++ v2 ++ y)) ex from by
          have e : sortL laneOf (u1 ++ v1) = u1 ++ v1 := sortL_srt_id (by rcases he with rfl | rfl; simpa using sv1; simpa using su1)
          rw [e]; exact h)
        have hS4 := hid (fun (w' : World) (h : SortAt w0 w' g kb (x ++ sortL laneOf (u1 ++ v1) ++ (u2 ++ v2 ++ y)) ex) (he : u2 = [] ∨ v2 = []) => show SortPost w0 g kb ex x (u ++ v) y (.returned (.tuple #[])) w' from hfin w' (by
          have e : sortL laneOf (u2 ++ v2) = u2 ++ v2 := sortL_srt_id (by rcases he with rfl | rfl; simpa using sv2; simpa using su2)
          rw [e]; simpa using h))
        have hR : Hid (∀ w', SortAt w0 w' g kb (x ++ (u1 ++ u2 ++ (v1 ++ v2)) ++ y) ex → S < M → M < E → Calls Try.prog 88 #[.slice (some ⟨g, 0, none⟩) n cap, .int .i64 S, .int .i64 M, .int .i64 E, cmpV kb] w' (SwapPost w0 g kb ex ((x ++ u1) ++ v1 ++ u2 ++ (v2 ++ y)))) := hid fun w' h a b => rotate_c (x := x ++ u1) (u := u2) (v := v1) (y := v2 ++ y) (by simpa using h) (by simp; omega) hc hm (by omega) (by omega) _ _ _ (by simp; omega) (by simp; omega) (by simp; omega)
        have hM1 : Hid (∀ w', SortAt w0 w' g kb (x ++ (u1 ++ v1) ++ (u2 ++ v2 ++ y)) ex → A < S → S < D → Calls Try.prog 86 #[.slice (some ⟨g, 0, none⟩) n cap, .int .i64 A, .int .i64 S, .int .i64 D, cmpV kb] w' (SortPost w0 g kb ex x (u1 ++ v1) (u2 ++ v2 ++ y))) := hid fun w' h a b => ih.out w0 w' g kb ex x u1 v1 (u2 ++ v2 ++ y) n cap _ _ _ (by omega) h su1 sv1 (by omega) (by omega) (by simp; omega) hc hm (by omega) (by omega) (by omega)
        have hM2 : Hid (∀ w', SortAt w0 w' g kb (x ++ sortL laneOf (u1 ++ v1) ++ (u2 ++ v2 ++ y)) ex → D < E → E < B → Calls Try.prog 86 #[.slice (some ⟨g, 0, none⟩) n cap, .int .i64 D, .int .i64 E, .int .i64 B, cmpV kb] w' (SortPost w0 g kb ex (x ++ sortL laneOf (u1 ++ v1)) (u2 ++ v2) y)) := hid fun w' h a b => ih.out w0 w' g kb ex (x ++ sortL laneOf (u1 ++ v1)) u2 v2 y n cap _ _ _ (by omega) (by simpa using h) su2 sv2 (by omega) (by omega) (by simp [sortL_len]; omega) hc hm (by simp [sortL_len]; omega) (by simp [sortL_len]; omega) (by simp [sortL_len]; omega)
        replace hfin := hid hfin
        replace hS1 := hid hS1
        have e0 : ∀ l : List (Value × Msg), l.length = 0 → l = [] := fun l h => List.eq_nil_of_length_eq_zero h
        have z1 := hid (show ¬ (S < M ∧ M < E) → u2 = [] ∨ v1 = [] from fun hx => by by_cases h1 : S < M; exact .inr (e0 _ (by omega)); exact .inl (e0 _ (by omega)))
        have z2 := hid (show ¬ (A < S ∧ S < D) → u1 = [] ∨ v1 = [] from fun hx => by by_cases h1 : A < S; exact .inr (e0 _ (by omega)); exact .inl (e0 _ (by omega)))
        have z3 := hid (show ¬ (D < E ∧ E < B) → u2 = [] ∨ v2 = [] from fun hx => by by_cases h1 : D < E; exact .inr (e0 _ (by omega)); exact .inl (e0 _ (by omega)))
        clear e0 hcs hA hM hB hE hEn hi hj lu1 lu2 lv1 lv2 su1 su2 sv1 sv2 hNN hnn hcase'
        unfold cmpV at hR hM1 hM2
        by_cases h1 : S < M
        · by_cases h2 : M < E
          · by_cases h3 : A < S
            · by_cases h6 : E < B
              · have h5 : D < E := by omega
                have h4 : S < D := by omega
                go_upto_if 199 with (first | (go_at_call 88; (with_reducible refine (hR.out _ hS1.out h1 h2).mono ?_); rintro e w3 ⟨rfl, hw3⟩; have hX : Hid (SortAt w0 w3 g kb (x ++ (u1 ++ v1) ++ (u2 ++ v2 ++ y)) ex) := hid (by simpa using hw3); clear hw3))
                go_upto_if 213 with (first | (go_at_call 86; (with_reducible refine (hM1.out _ hX.out h3 h4).mono ?_); rintro e w4 ⟨rfl, hw4⟩; have hY := hid hw4; clear hw4))
                go_wp2_with (first | (go_at_call 86; (with_reducible refine (hM2.out _ hY.out h5 h6).mono ?_); rintro e w5 ⟨rfl, hw5⟩; have hZ := hid (hfin.out _ hw5); clear hw5))
                go_end0
                exact hZ.out
              · have h5 : D < E := by omega
                have h4 : S < D := by omega
                go_upto_if 199 with (first | (go_at_call 88; (with_reducible refine (hR.out _ hS1.out h1 h2).mono ?_); rintro e w3 ⟨rfl, hw3⟩; have hX : Hid (SortAt w0 w3 g kb (x ++ (u1 ++ v1) ++ (u2 ++ v2 ++ y)) ex) := hid (by simpa using hw3); clear hw3))
                go_upto_if 213 with (first | (go_at_call 86; (with_reducible refine (hM1.out _ hX.out h3 h4).mono ?_); rintro e w4 ⟨rfl, hw4⟩; have hY := hid hw4; clear hw4))
                have hZ := hid (hS4.out _ hY.out (z3.out (by omega)))
                go_wp2
                go_end0
                exact hZ.out
            · by_cases h6 : E < B
              · have h5 : D < E := by omega
                have h4 : S < D := by omega
                go_upto_if 199 with (first | (go_at_call 88; (with_reducible refine (hR.out _ hS1.out h1 h2).mono ?_); rintro e w3 ⟨rfl, hw3⟩; have hX : Hid (SortAt w0 w3 g kb (x ++ (u1 ++ v1) ++ (u2 ++ v2 ++ y)) ex) := hid (by simpa using hw3); clear hw3))
                have hY := hid (hS3.out _ hX.out (z2.out (by omega)))
                go_upto_if 213 with fail
                go_wp2_with (first | (go_at_call 86; (with_reducible refine (hM2.out _ hY.out h5 h6).mono ?_); rintro e w5 ⟨rfl, hw5⟩; have hZ := hid (hfin.out _ hw5); clear hw5))
                go_end0
                exact hZ.out
              · have h5 : D < E := by omega
                have h4 : S < D := by omega
                go_upto_if 199 with (first | (go_at_call 88; (with_reducible refine (hR.out _ hS1.out h1 h2).mono ?_); rintro e w3 ⟨rfl, hw3⟩; have hX : Hid (SortAt w0 w3 g kb (x ++ (u1 ++ v1) ++ (u2 ++ v2 ++ y)) ex) := hid (by simpa using hw3); clear hw3))
                have hY := hid (hS3.out _ hX.out (z2.out (by omega)))
                go_upto_if 213 with fail
                have hZ := hid (hS4.out _ hY.out (z3.out (by omega)))
                go_wp2
                go_end0
                exact hZ.out
          · by_cases h3 : A < S
            · by_cases h6 : E < B
              · have h5 : D < E := by omega
                have h4 : ¬ S < D := by omega
                have hX := hid (hS2.out _ hS1.out (z1.out (by omega)))
                go_upto_if 199 with fail
                have hY := hid (hS3.out _ hX.out (z2.out (by omega)))
                go_upto_if 213 with fail
                go_wp2_with (first | (go_at_call 86; (with_reducible refine (hM2.out _ hY.out h5 h6).mono ?_); rintro e w5 ⟨rfl, hw5⟩; have hZ := hid (hfin.out _ hw5); clear hw5))
                go_end0
                exact hZ.out
              · have h5 : D < E := by omega
                have h4 : ¬ S < D := by omega
                have hX := hid (hS2.out _ hS1.out (z1.out (by omega)))
                go_upto_if 199 with fail
                have hY := hid (hS3.out _ hX.out (z2.out (by omega)))
                go_upto_if 213 with fail
                have hZ := hid (hS4.out _ hY.out (z3.out (by omega)))
                go_wp2
                go_end0
                exact hZ.out
            · by_cases h6 : E < B
              · have h5 : D < E := by omega
                have h4 : ¬ S < D := by omega
                have hX := hid (hS2.out _ hS1.out (z1.out (by omega)))
                go_upto_if 199 with fail
                have hY := hid (hS3.out _ hX.out (z2.out (by omega)))
                go_upto_if 213 with fail
                go_wp2_with (first | (go_at_call 86; (with_reducible refine (hM2.out _ hY.out h5 h6).mono ?_); rintro e w5 ⟨rfl, hw5⟩; have hZ := hid (hfin.out _ hw5); clear hw5))
                go_end0
                exact hZ.out
              · have h5 : D < E := by omega
                have h4 : ¬ S < D := by omega
                have hX := hid (hS2.out _ hS1.out (z1.out (by omega)))
                go_upto_if 199 with fail
                have hY := hid (hS3.out _ hX.out (z2.out (by omega)))
                go_upto_if 213 with fail
                have hZ := hid (hS4.out _ hY.out (z3.out (by omega)))
                go_wp2
                go_end0
                exact hZ.out
        · by_cases h2 : M < E
          · by_cases h3 : A < S
            · by_cases h6 : E < B
              · have h5 : ¬ D < E := by omega
                have h4 : S < D := by omega
                have hX := hid (hS2.out _ hS1.out (z1.out (by omega)))
                go_upto_if 199 with fail
                go_upto_if 213 with (first | (go_at_call 86; (with_reducible refine (hM1.out _ hX.out h3 h4).mono ?_); rintro e w4 ⟨rfl, hw4⟩; have hY := hid hw4; clear hw4))
                have hZ := hid (hS4.out _ hY.out (z3.out (by omega)))
                go_wp2
                go_end0
                exact hZ.out
              · have h5 : ¬ D < E := by omega
                have h4 : S < D := by omega
                have hX := hid (hS2.out _ hS1.out (z1.out (by omega)))
                go_upto_if 199 with fail
                go_upto_if 213 with (first | (go_at_call 86; (with_reducible refine (hM1.out _ hX.out h3 h4).mono ?_); rintro e w4 ⟨rfl, hw4⟩; have hY := hid hw4; clear hw4))
                have hZ := hid (hS4.out _ hY.out (z3.out (by omega)))
                go_wp2
                go_end0
                exact hZ.out
            · by_cases h6 : E < B
              · have h5 : ¬ D < E := by omega
                have h4 : S < D := by omega
                have hX := hid (hS2.out _ hS1.out (z1.out (by omega)))
                go_upto_if 199 with fail
                have hY := hid (hS3.out _ hX.out (z2.out (by omega)))
                go_upto_if 213 with fail
                have hZ := hid (hS4.out _ hY.out (z3.out (by omega)))
                go_wp2
                go_end0
                exact hZ.out
              · have h5 : ¬ D < E := by omega
                have h4 : S < D := by omega
                have hX := hid (hS2.out _ hS1.out (z1.out (by omega)))
                go_upto_if 199 with fail
                have hY := hid (hS3.out _ hX.out (z2.out (by omega)))
                go_upto_if 213 with fail
                have hZ := hid (hS4.out _ hY.out (z3.out (by omega)))
                go_wp2
                go_end0
                exact hZ.out
          · by_cases h3 : A < S
            · by_cases h6 : E < B
              · have h5 : ¬ D < E := by omega
                have h4 : ¬ S < D := by omega
                have hX := hid (hS2.out _ hS1.out (z1.out (by omega)))
                go_upto_if 199 with fail
                have hY := hid (hS3.out _ hX.out (z2.out (by omega)))
                go_upto_if 213 with fail
                have hZ := hid (hS4.out _ hY.out (z3.out (by omega)))
                go_wp2
                go_end0
                exact hZ.out
              · have h5 : ¬ D < E := by omega
                have h4 : ¬ S < D := by omega
                have hX := hid (hS2.out _ hS1.out (z1.out (by omega)))
                go_upto_if 199 with fail
                have hY := hid (hS3.out _ hX.out (z2.out (by omega)))
                go_upto_if 213 with fail
                have hZ := hid (hS4.out _ hY.out (z3.out (by omega)))
                go_wp2
                go_end0
                exact hZ.out
            · by_cases h6 : E < B
              · have h5 : ¬ D < E := by omega
                have h4 : ¬ S < D := by omega
                have hX := hid (hS2.out _ hS1.out (z1.out (by omega)))
                go_upto_if 199 with fail
                have hY := hid (hS3.out _ hX.out (z2.out (by omega)))
                go_upto_if 213 with fail
                have hZ := hid (hS4.out _ hY.out (z3.out (by omega)))
                go_wp2
                go_end0
                exact hZ.out
              · have h5 : ¬ D < E := by omega
                have h4 : ¬ S < D := by omega
                have hX := hid (hS2.out _ hS1.out (z1.out (by omega)))
                go_upto_if 199 with fail
                have hY := hid (hS3.out _ hX.out (z2.out (by omega)))
                go_upto_if 213 with fail
                have hZ := hid (hS4.out _ hY.out (z3.out (by omega)))
                go_wp2
                go_end0
                exact hZ.out
end Go.Proofs.Ytggfallodkbgcaa.So

namespace Go.Proofs.Ytggfallodkbgcaa.So
set_option linter.unusedVariables false
set_option linter.unusedSimpArgs false
open Go.RowKit Go.Proofs.Ytggfallodkbgcaa.K Go.Proofs.Ytggfallodkbgcaa.Sp Go.Proofs.Ytggfallodkbgcaa.Lb
theorem sym_ok : ∀ N, SymOk N
  | 0 => fun _ _ _ _ _ _ _ _ _ _ _ _ _ _ h => by omega
  | N + 1 => fun w0 w g kb ex x u v y n cap a m b hN h hu hv hu0 hv0 hn hc hm ha hmm hb => by
    by_cases h1 : u.length = 1
    · obtain ⟨p, rfl⟩ := List.length_eq_one_iff.1 h1
      exact symLeft_c (p := p) (by simpa using h) hv (by simpa using hn) hc hm a m b ha (by simpa using hmm) (by simpa using hb)
    · by_cases h2 : v.length = 1
      · obtain ⟨p, rfl⟩ := List.length_eq_one_iff.1 h2
        exact symRight_c h hu (by omega) hn hc hm a m b ha hmm (by simpa using hb)
      · exact sym_step N (hid (sym_ok N)) (by omega) h hu hv (by omega) (by omega) hn hc hm a m b ha hmm hb
theorem sym_c {w0 w : World} {g kb : Nat} {ex : List Value} {x u v y : List (Value × Msg)} {n cap : Nat} (h : SortAt w0 w g kb (x ++ (u ++ v) ++ y) ex) (hu : Srt laneOf u) (hv : Srt laneOf v) (hu0 : 0 < u.length) (hv0 : 0 < v.length) (hn : n = (x ++ (u ++ v) ++ y).length) (hc : n ≤ cap) (hm : n ≤ 1000000) (a m b : Int) (ha : a = x.length) (hmm : m = x.length + u.length) (hb : b = x.length + u.length + v.length) :
    Calls Try.prog 86 #[.slice (some ⟨g, 0, none⟩) n cap, .int .i64 a, .int .i64 m, .int .i64 b, cmpV kb] w (SortPost w0 g kb ex x (u ++ v) y) :=
  sym_ok (u.length + v.length + 1) w0 w g kb ex x u v y n cap a m b (by omega) h hu hv hu0 hv0 hn hc hm ha hmm hb
theorem sortL_parts (u v : List (Value × Msg)) : sortL laneOf (sortL laneOf u ++ sortL laneOf v) = sortL laneOf (u ++ v) :=
  sortL_of (((sortL_stab u).app (sortL_stab v)).trans (sortL_stab _)) (sortL_srt _)
def StablePost (w0 : World) (g kb : Nat) (ex : List Value) (s : List (Value × Msg)) (e : Ending) (w' : World) : Prop := e = .returned (.tuple #[]) ∧ SortAt w0 w' g kb (sortL laneOf s) ex
set_option maxHeartbeats 2000000 in
set_option maxRecDepth 100000 in
theorem stable_c {w0 w : World} {g kb : Nat} {ex : List Value} {s : List (Value × Msg)} {n cap : Nat} (h : SortAt w0 w g kb s ex) (hn : n = s.length) (h40 : s.length < 40) (hc : n ≤ cap) (hm : n ≤ 1000000) :
    Calls Try.prog 78 #[.slice (some ⟨g, 0, none⟩) n cap, .int .i64 n, cmpV kb] w (StablePost w0 g kb ex s) := by
  have hn40 : n < 40 := by omega
  by_cases h20 : n < 20
  · have hi : Calls Try.prog 85 #[.slice (some ⟨g, 0, none⟩) n cap, .int .i64 0, .int .i64 n, cmpV kb] w _ := insSort_c (x := []) (u := s) (y := []) (by simpa using h) (by simpa using hn) hc hm _ _ (by simp) (by simp; omega)
    have hfin := hid (fun w' (h : SortAt w0 w' g kb ([] ++ sortL laneOf s ++ []) ex) => show StablePost w0 g kb ex s (.returned (.tuple #[])) w' from ⟨rfl, by simpa using h⟩)
    unfold cmpV at *
    replace hi := hid hi
    replace h := hid h
    replace hn := hid hn
    clear h40
    go_enter Try.func78, Try.ntmps78
    go_wp2
    go_loopg [7, 8] 0 (fun gg a b wr => a = .int .i64 0 ∧ b = .int .i64 20 ∧ w = wr)
    case atStart => exact ⟨rfl, rfl, rfl⟩
    case round =>
      obtain ⟨rfl, rfl, rfl⟩ := hrel
      go_wp2_with (first | (go_at_call 85; (with_reducible refine (hi.out).mono ?_); rintro e w3 ⟨rfl, hw3⟩; have hf := hid (hfin.out _ hw3); clear hw3))
      go_loopg [6, 7, 8, 9] 0 (fun gg s6 a b c wr => s6 = .int .i64 20 ∧ w3 = wr)
      case atStart => exact ⟨rfl, rfl⟩
      case round =>
        obtain ⟨rfl, rfl⟩ := hrel
        go_wp2
        go_end0
        exact hf.out
  · have hi1 : Calls Try.prog 85 #[.slice (some ⟨g, 0, none⟩) n cap, .int .i64 0, .int .i64 20, cmpV kb] w _ := insSort_c (x := []) (u := s.take 20) (y := s.drop 20) (by simpa using h) (by simp; omega) hc hm _ _ (by simp) (by simp; omega)
    have hi2 := hid (fun (w1 : World) (h1 : SortAt w0 w1 g kb ([] ++ sortL laneOf (s.take 20) ++ s.drop 20) ex) => show Calls Try.prog 85 #[.slice (some ⟨g, 0, none⟩) n cap, .int .i64 20, .int .i64 n, cmpV kb] w1 (SortPost w0 g kb ex (sortL laneOf (s.take 20)) (s.drop 20) []) from insSort_c (x := sortL laneOf (s.take 20)) (u := s.drop 20) (y := []) (by simpa using h1) (by simp [sortL_len]; omega) hc hm _ _ (by simp [sortL_len]; omega) (by simp [sortL_len]; omega))
    have hi3 := hid (fun (w1 : World) (h1 : SortAt w0 w1 g kb (sortL laneOf (s.take 20) ++ sortL laneOf (s.drop 20) ++ []) ex) (hlt : 20 < n) => show Calls Try.prog 86 #[.slice (some ⟨g, 0, none⟩) n cap, .int .i64 0, .int .i64 20, .int .i64 n, cmpV kb] w1 (SortPost w0 g kb ex [] (sortL laneOf (s.take 20) ++ sortL laneOf (s.drop 20)) []) from sym_c (x := []) (u := sortL laneOf (s.take 20)) (v := sortL laneOf (s.drop 20)) (y := []) (by simpa using h1) (sortL_srt _) (sortL_srt _) (by simp [sortL_len]; omega) (by simp [sortL_len]; omega) (by simp [sortL_len]; omega) hc hm _ _ _ (by simp) (by simp [sortL_len]; omega) (by simp [sortL_len]; omega))
    have hfin := hid (fun w' (h : SortAt w0 w' g kb ([] ++ sortL laneOf (sortL laneOf (s.take 20) ++ sortL laneOf (s.drop 20)) ++ []) ex) => show StablePost w0 g kb ex s (.returned (.tuple #[])) w' from ⟨rfl, by rw [sortL_parts, List.take_append_drop] at h; simpa using h⟩)
    have hfin2 := hid (fun w' (h : SortAt w0 w' g kb (sortL laneOf (s.take 20) ++ sortL laneOf (s.drop 20) ++ []) ex) (h20 : n ≤ 20) => show StablePost w0 g kb ex s (.returned (.tuple #[])) w' from ⟨rfl, by
      have e : s.drop 20 = [] := List.drop_of_length_le (by omega)
      have e2 : s.take 20 = s := List.take_of_length_le (by omega)
      rw [e, e2] at h
      simpa [sortL] using h⟩)
    unfold cmpV at *
    have hge : 20 ≤ n := by omega
    replace hi1 := hid hi1
    replace h := hid h
    replace hn := hid hn
    clear h40
    go_enter Try.func78, Try.ntmps78
    go_wp2
    go_loopg [7, 8] 1 (fun gg a b wr => (gg = 1 ∧ a = .int .i64 0 ∧ b = .int .i64 20 ∧ w = wr) ∨ (gg = 0 ∧ a = .int .i64 20 ∧ b = .int .i64 40 ∧ SortAt w0 wr g kb ([] ++ sortL laneOf (s.take 20) ++ s.drop 20) ex))
    case atStart => exact .inl ⟨rfl, rfl, rfl, rfl⟩
    case round =>
      rcases hrel with ⟨rfl, rfl, rfl, rfl⟩ | ⟨rfl, rfl, rfl, hS1⟩
      · go_wp2_with (first | (go_at_call 85; (with_reducible refine (hi1.out).mono ?_); rintro e w3 ⟨rfl, hw3⟩; replace hw3 := hid hw3))
        go_roundg 0
        case rel => exact .inr ⟨rfl, rfl, rfl, hw3.out⟩
        case measure => omega
      · replace hS1 := hid hS1
        go_wp2_with (first | (go_at_call 85; (with_reducible refine (hi2.out _ hS1.out).mono ?_); rintro e w3 ⟨rfl, hw3⟩; replace hw3 := hid hw3))
        go_loopg [6, 7, 8, 9] 1 (fun gg s6 a b c wr => (gg = 1 ∧ s6 = .int .i64 20 ∧ w3 = wr) ∨ (gg = 0 ∧ s6 = .int .i64 40 ∧ SortAt w0 wr g kb ([] ++ sortL laneOf (sortL laneOf (s.take 20) ++ sortL laneOf (s.drop 20)) ++ []) ex))
        case atStart => exact .inl ⟨rfl, rfl, rfl⟩
        case round =>
          rcases hrel with ⟨rfl, rfl, rfl⟩ | ⟨rfl, rfl, hS3⟩
          · by_cases hlt : 20 < n
            · go_wp2
              go_loopg [7, 8] 0 (fun gg a b wr => a = .int .i64 0 ∧ b = .int .i64 40 ∧ w3 = wr)
              case atStart => exact ⟨rfl, rfl, rfl⟩
              case round =>
                obtain ⟨rfl, rfl, rfl⟩ := hrel
                go_wp2_with (first | (go_at_call 86; (with_reducible refine (hi3.out _ hw3.out hlt).mono ?_); rintro e w4 ⟨rfl, hw4⟩; replace hw4 := hid hw4))
                go_roundg 0
                case rel => exact .inr ⟨rfl, rfl, hw4.out⟩
                case measure => omega
            · have hf := hid (hfin2.out _ hw3.out (by omega))
              go_wp2
              go_end0
              exact hf.out
          · have hf := hid (hfin.out _ hS3)
            clear hS3
            go_wp2
            go_end0
            exact hf.out
set_option maxHeartbeats 2000000 in
theorem sortStable_c {w0 w : World} {g kb : Nat} {ex : List Value} {s : List (Value × Msg)} {n cap : Nat} (h : SortAt w0 w g kb s ex) (hn : n = s.length) (h40 : s.length < 40) (hc : n ≤ cap) (hm : n ≤ 1000000) :
    Calls Try.prog 67 #[.slice (some ⟨g, 0, none⟩) n cap, cmpV kb] w (StablePost w0 g kb ex s) := by
  have hs := stable_c h hn h40 hc hm
  have hn40 : n < 40 := by omega
  unfold cmpV at *
  replace hs := hid hs
  replace h := hid h
  replace hn := hid hn
  clear h40
  go_enter Try.func67, Try.ntmps67
  go_wp2_with (first | (go_at_call 78; (with_reducible refine (hs.out).mono ?_); rintro e w4 ⟨rfl, hw4⟩; replace hw4 := hid hw4))
  go_end0
  exact ⟨rfl, hw4.out⟩
theorem insSort0 (w : World) (ao : Option Addr) (f : Value) : Calls Try.prog 85 #[.slice ao 0 0, .int .i64 0, .int .i64 0, f] w fun e w' => e = .returned (.tuple #[]) ∧ w = w' := by
  go_enter Try.func85, Try.ntmps85
  go_wp2
  go_loopg [8, 9] 0 (fun gg a b wr => a = .int .i64 1 ∧ w = wr)
  case atStart => exact ⟨rfl, rfl⟩
  case round =>
    obtain ⟨rfl, rfl⟩ := hrel
    go_wp2
    go_end0
    exact ⟨rfl, rfl⟩
theorem stable0 (w : World) (ao : Option Addr) (f : Value) : Calls Try.prog 78 #[.slice ao 0 0, .int .i64 0, f] w fun e w' => e = .returned (.tuple #[]) ∧ w = w' := by
  go_enter Try.func78, Try.ntmps78
  go_wp2
  go_loopg [7, 8] 0 (fun gg a b wr => a = .int .i64 0 ∧ b = .int .i64 20 ∧ w = wr)
  case atStart => exact ⟨rfl, rfl, rfl⟩
  case round =>
    obtain ⟨rfl, rfl, rfl⟩ := hrel
    go_wp2_with (first | (go_at_call 85; (with_reducible refine (insSort0 _ ao f).mono ?_); rintro e w3 ⟨rfl, rfl⟩))
    go_loopg [6, 7, 8, 9] 0 (fun gg s6 a b c wr => s6 = .int .i64 20 ∧ w = wr)
    case atStart => exact ⟨rfl, rfl⟩
    case round =>
      obtain ⟨rfl, rfl⟩ := hrel
      go_wp2
      go_end0
      exact ⟨rfl, rfl⟩
theorem sortStable0 (w : World) (ao : Option Addr) (f : Value) : Calls Try.prog 67 #[.slice ao 0 0, f] w fun e w' => e = .returned (.tuple #[]) ∧ w = w' := by
  go_enter Try.func67, Try.ntmps67
  go_wp2_with (first | (go_at_call 78; (with_reducible refine (stable0 _ ao f).mono ?_); rintro e w4 ⟨rfl, rfl⟩))
  go_end0
  exact ⟨rfl, rfl⟩
theorem elMsg : ElemOk Try.prog 41 37 5 56 := .mk' (z := .agg #[.slice none 0 0, .int .i64 0, .int .i64 0, .int .i64 0, .int .i64 0]) Try.underlying41 (by kernel_rfl) rfl (by decide)
theorem isNilM (w : World) : (binOp .eql 41 (.slice none 0 0) (.slice none 0 0)).run Try.prog w = .ok (.bool true) w := by kernel_rfl
theorem notNilM (w : World) (a : Addr) (n c : Nat) : (binOp .eql 41 (.slice (some a) n c) (.slice none 0 0)).run Try.prog w = .ok (.bool false) w := by kernel_rfl
theorem clonesM_nil (w : World) : Calls Try.prog 66 #[.slice none 0 0] w fun e w' => e = .returned (.slice none 0 0) ∧ w = w' := by
  have hz := isNilM
  go_enter Try.func66, Try.ntmps66
  go_wp2
  go_ret
  exact ⟨rfl, rfl⟩
/-- A row that is copied. -/
def CopyPost (w : World) (ps : List (Value × Msg)) (e : Ending) (w' : World) : Prop :=
  ∃ v', e = .returned v' ∧ Below w.heap.size w w' ∧ ((ps = [] ∧ ∃ ao, v' = .slice ao 0 0) ∨ (0 < ps.length ∧ w'.ownsRow w.heap.size 37 5 v' ps.length (flat encM ps)))
set_option maxRecDepth 100000 in
theorem clonesM_c {ok okw : Nat → Prop} {w : World} {v : Value} {ps : List (Value × Msg)} (h : MsgsAt ok okw w v ps) (hn : ps.length ≤ 1000000) : Calls Try.prog 66 #[v] w (CopyPost w ps) := by
  obtain ⟨ao, cap, rfl⟩ := h.shape
  have h0 := h
  obtain ⟨ao', cap', hv, ⟨hlc, hcm, hnc⟩, -, -⟩ := h0
  simp only [Value.slice.injEq] at hv
  obtain ⟨rfl, -, rfl⟩ := hv
  cases ao with
  | none =>
    have h0 : cap = 0 := hnc rfl
    have hx0 : ps = [] := List.eq_nil_of_length_eq_zero (by omega)
    subst hx0 h0
    exact (clonesM_nil w).mono fun e w' ⟨he, hw⟩ => ⟨_, he, by subst hw; exact ⟨Below.refl _ _, .inl ⟨rfl, none, rfl⟩⟩⟩
  | some a =>
    have h1 := h.below ((Below.refl w.heap.size w).alloc (Nat.le_refl _) (.cells #[] 37))
    obtain ⟨v', w', hr, hb, hz, hp⟩ := run_clone (ty := 41) (t := 41) elMsg (some ⟨w.heap.size, 0, none⟩) (h1.src elMsg.u) (by unfold maxLen; omega) (by omega)
    have hB : Below w.heap.size w w' := Below.next ((Below.refl _ _).alloc (Nat.le_refl _) _) hb (by simp)
    have hfin := hid (show CopyPost w ps (.returned v') w' from ⟨v', rfl, hB, by
      by_cases hl : ps.length = 0
      · obtain ⟨rfl, rfl⟩ := hz hl
        exact .inl ⟨List.eq_nil_of_length_eq_zero hl, _, rfl⟩
      · refine .inr ⟨by omega, ?_⟩
        have := hp (by omega)
        have hle : w.heap.size ≤ (w.alloc (.cells #[] 37)).heap.size := by simp
        exact own_mono this hle⟩)
    have hsh : ∃ a b c, v' = .slice a b c := by
      by_cases hl : ps.length = 0
      · obtain ⟨rfl, rfl⟩ := hz hl
        exact ⟨_, _, _, rfl⟩
      · obtain ⟨a, c, e⟩ := own_shape (hp (by omega)); exact ⟨a, _, c, e⟩
    obtain ⟨a', b', c', rfl⟩ := hsh
    replace hB := hid hB
    replace hp := hid hp
    replace hz := hid hz
    replace hb := hid hb
    replace h1 := hid h1
    replace h := hid h
    have hzn := notNilM
    go_enter Try.func66, Try.ntmps66
    go_wp2_with (at_builtin; refine wpList_append_run rfl (.tmp 5) (.tmp 6) 41 rfl rfl rfl hr ?_)
    go_ret
    exact hfin.out
/-- A key: one of the two closures that give a message's lane. -/
def KeyFn (f : Value) : Prop := f = .func (.func 56) #[] #[] ∨ f = .func (.func 80) #[] #[]
def SortedPost (okw : Nat → Prop) (w : World) (ps : List (Value × Msg)) (e : Ending) (w' : World) : Prop :=
  ∃ v', e = .returned v' ∧ MsgsAt (fun b => w.heap.size ≤ b) okw w' v' (sortL laneOf ps) ∧ Below w.heap.size w w'
set_option maxHeartbeats 2000000 in
set_option maxRecDepth 100000 in
theorem sorted_c {ok okw : Nat → Prop} {w : World} {v : Value} {ps : List (Value × Msg)} (h : MsgsAt ok okw w v ps) (hn : ps.length < 40) {f : Value} (hf : KeyFn f) : Calls Try.prog 55 #[v, f] w (SortedPost okw w ps) := by
  obtain ⟨ao, cap, rfl⟩ := h.shape
  have hbA := (Below.refl w.heap.size w).alloc (Nat.le_refl _) (.cells #[f] 100)
  have hcl := clonesM_c (h.below hbA) (by omega)
  have hkp : pts (w.alloc (.cells #[f] 100)) w.heap.size [f] 100 := pts.newA w _ _
  have hwords := hid h.words
  replace hcl := hid hcl
  have hbA := hid hbA
  have hkp := hid hkp
  replace h := hid h
  have hnil : Hid (∀ w' v', Below w.heap.size w w' → (∃ ao, v' = .slice ao 0 0) → ps = [] → SortedPost okw w ps (.returned v') w') := hid fun w' v' hb ⟨ao, hv⟩ he => by
    subst hv he
    have e : sortL laneOf ([] : List (Value × Msg)) = [] := rfl
    exact ⟨_, rfl, by rw [e]; exact ⟨ao, 0, rfl, ⟨by simp, by simp [maxLen], fun _ => rfl⟩, WordsIn.nil _ _, .inl rfl⟩, hb⟩
  rcases hf with rfl | rfl
  all_goals
    have hkey : Hid (∀ w1, Below (w.heap.size + 1) (w.alloc (.cells _ 100)) w1 → KeyAt w1 w.heap.size) := hid fun w1 h1 => by
      have := (hkp.out.belowOf h1 (by omega)).cell 0
      simp only [List.getElem?_cons_zero] at this
      first | exact .inl this | exact .inr this
    go_enter Try.func55, Try.ntmps55
    go_upto_region 2 with (first | (go_at_call 66; (with_reducible refine (hcl.out).mono ?_); rintro e w1 ⟨v', rfl, hb1, hor⟩; replace hb1 := hid hb1; replace hor := hid hor))
    rcases hor.out with ⟨he, ao', rfl⟩ | ⟨hpos, hown⟩
    · have hf := hid (hnil.out w1 _ (Below.next hbA.out hb1.out (by simp)) ⟨ao', rfl⟩ he)
      go_wp2_with (first | (go_at_call 67; (with_reducible refine (sortStable0 _ ao' _).mono ?_); rintro e w4 ⟨rfl, rfl⟩))
      go_ret
      exact hf.out
    · obtain ⟨g, cap2, ex, rfl, hg, hpt, hc2, hm2⟩ := own_split hown hpos
      have hB1 := Below.next hbA.out hb1.out (by simp)
      have hS : SortAt w1 w1 g w.heap.size ps ex := ⟨hpt, Chg.refl _ _, hkey.out _ (by have := hb1.out; simpa using this), by simp at hg; omega, fun p hp => let ⟨a, c, e⟩ := hwords.out p hp |>.shape; ⟨a, _, c, e⟩⟩
      have hso := sortStable_c hS rfl hn hc2 (by omega)
      have hfin := hid (fun w' (h : SortAt w1 w' g w.heap.size (sortL laneOf ps) ex) => show SortedPost okw w ps (.returned (.slice (some ⟨g, 0, none⟩) ps.length cap2)) w' from by
        have hB : Below w.heap.size w w' := hB1.trans (h.chg.toBelow hB1.size (fun i hi => by have hi : i = g := hi; simp at hg; omega))
        have hW : WordsIn okw w' (sortL laneOf ps) := (hwords.out.sub (fun p hp => (sortL_mem _ _).1 hp)).below hB
        refine ⟨_, rfl, ⟨_, cap2, by rw [sortL_len], ⟨by rw [sortL_len]; exact hc2, hm2, fun h => by cases h⟩, hW, .inr ⟨g, 0, rfl, by simp at hg; omega, h.at_.lt, fun i hi j hj => ?_⟩⟩, hB⟩
        rw [Nat.zero_add, h.at_.cell, flat_get encM_len _ ex i j hi hj])
      unfold cmpV at hso
      replace hso := hid hso
      clear hS hown hpt
      go_wp2_with (first | (go_at_call 67; (with_reducible refine (hso.out).mono ?_); rintro e w4 ⟨rfl, hw4⟩; replace hw4 := hid (hfin.out _ hw4)))
      go_ret
      exact hw4.out
end Go.Proofs.Ytggfallodkbgcaa.So
