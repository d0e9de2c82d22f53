/- DERIVED. Lanes in memory; walks: New, Len, is, clones, All. No statement is proved here. -/
import Derived.Test.YtggfallodkbgcaaSortAll
namespace Go.Proofs.Ytggfallodkbgcaa.La
set_option linter.unusedVariables false
set_option linter.unusedSimpArgs false
open Go.RowKit Go.Proofs.Ytggfallodkbgcaa.K Go.Proofs.Ytggfallodkbgcaa.Sp Go.Proofs.Ytggfallodkbgcaa.Lb Go.Proofs.Ytggfallodkbgcaa.So
def lane1 (m : Msg) : Int := m.lane
/-- Messages by their lanes; those of one lane as they are. -/
def sortM (ms : List Msg) : List Msg := sortL lane1 ms
theorem sort_snd (ps : List (Value × Msg)) : (sortL laneOf ps).map Prod.snd = sortM (ps.map Prod.snd) := by
  refine sortL_of ⟨by simp [sortL_len], fun k => ?_⟩ (List.pairwise_map.2 (sortL_srt ps))
  have e : ∀ l : List (Value × Msg), (l.map Prod.snd).filter (fun m => lane1 m == k) = (l.filter (fun p => laneOf p == k)).map Prod.snd := fun l => by rw [List.filter_map]; rfl
  rw [e, e, sortL_row]
theorem len_lanes : ∀ ms : List Msg, (∀ m ∈ ms, 0 ≤ m.lane ∧ m.lane < 3) → ms.length = (ms.filter (fun m => m.lane == 0)).length + (ms.filter (fun m => m.lane == 1)).length + (ms.filter (fun m => m.lane == 2)).length
  | [], _ => rfl
  | m :: ms, h => by
    have ih := len_lanes ms (fun q hq => h q (by simp [hq]))
    have hm := h m (by simp)
    have : m.lane = 0 ∨ m.lane = 1 ∨ m.lane = 2 := by omega
    rcases this with e | e | e <;> simp [List.filter_cons, e] <;> omega
/-- What lanes hold: few of each lane. -/
structure LInv (ln pl : Int) (ms : List Msg) : Prop where
  l : 1 ≤ ln ∧ ln ≤ 3
  p : 1 ≤ pl ∧ pl ≤ 8
  lane : ∀ m ∈ ms, 0 ≤ m.lane ∧ m.lane < ln
  few : ∀ k, ((ms.filter (fun m => m.lane == k)).length : Int) ≤ pl
  short : ∀ m ∈ ms, m.words.length ≤ 17592186044416
theorem LInv.len {ln pl : Int} {ms : List Msg} (h : LInv ln pl ms) : ms.length ≤ 24 := by
  have h1 := len_lanes ms (fun m hm => by have := h.lane m hm; have := h.l; omega)
  have h2 := h.few 0
  have h3 := h.few 1
  have h4 := h.few 2
  have := h.p
  omega
theorem LInv.sub {ln pl : Int} {ms : List Msg} (h : LInv ln pl ms) (f : Msg → Bool) : LInv ln pl (ms.filter f) := by
  refine ⟨h.l, h.p, fun m hm => h.lane m (List.mem_filter.1 hm).1, fun k => ?_, fun m hm => h.short m (List.mem_filter.1 hm).1⟩
  have h1 : ((ms.filter f).filter (fun m => m.lane == k)).length ≤ (ms.filter (fun m => m.lane == k)).length := by
    rw [List.filter_filter, List.filter_congr (q := fun m => f m && (m.lane == k)) (fun m _ => Bool.and_comm _ _), ← List.filter_filter]
    exact List.length_filter_le _ _
  have := h.few k
  omega
theorem LInv.stab {ln pl : Int} {ms ms' : List Msg} (h : LInv ln pl ms) (hs : Stab lane1 ms ms') : LInv ln pl ms' :=
  ⟨h.l, h.p, fun m hm => h.lane m (hs.mem.2 hm), fun k => by have := hs.row k; have h2 := h.few k; unfold lane1 at this; rw [this] at h2; exact h2, fun m hm => h.short m (hs.mem.2 hm)⟩
theorem LInv.sort {ln pl : Int} {ms : List Msg} (h : LInv ln pl ms) : LInv ln pl (sortM ms) := h.stab (sortL_stab ms)
theorem LInv.add {ln pl : Int} {ms : List Msg} (h : LInv ln pl ms) {m : Msg} (h1 : 0 ≤ m.lane ∧ m.lane < ln) (h2 : ((ms.filter (fun q => q.lane == m.lane)).length : Int) < pl) (h3 : m.words.length ≤ 17592186044416) : LInv ln pl (ms ++ [m]) := by
  refine ⟨h.l, h.p, fun q hq => ?_, fun k => ?_, fun q hq => ?_⟩
  · rcases List.mem_append.1 hq with hq | hq
    · exact h.lane q hq
    · simp at hq; subst hq; exact h1
  · rw [List.filter_append, List.length_append]
    by_cases hk : m.lane = k
    · subst hk; simp; omega
    · have := h.few k; simp [hk]; omega
  · rcases List.mem_append.1 hq with hq | hq
    · exact h.short q hq
    · simp at hq; subst hq; exact h3
/-- Lanes: their struct's block; their row; all of their blocks are of M. -/
structure LanesAt (w : World) (M : Nat → Prop) (lb : Nat) (ln pl : Int) (lv : Value) (ps : List (Value × Msg)) : Prop where
  at_ : pts w lb [.int .i64 ln, .int .i64 pl, lv] 90
  own : w.ownsRow 0 37 5 lv ps.length (flat encM ps)
  words : WordsIn (fun b => M b ∧ b ≠ lb ∧ lv.ownBlock ≠ some b) w ps
  mine : M lb
  mown : ∀ b, lv.ownBlock = some b → M b
  lt : ∀ b, M b → b < w.heap.size
  inv : LInv ln pl (ps.map Prod.snd)
section
variable {w w' : World} {M : Nat → Prop} {lb : Nat} {ln pl : Int} {lv : Value} {ps : List (Value × Msg)} {ms : List Msg}
theorem LanesAt.ne (h : LanesAt w M lb ln pl lv ps) : ∀ b, lv.ownBlock = some b → b ≠ lb := fun b hb e => by
  obtain ⟨cs, hc⟩ := own_at h.own hb
  subst e
  have h1 := h.at_
  unfold pts at h1
  rw [h1] at hc
  simp only [Option.some.injEq, Obj.cells.injEq] at hc
  have : (90 : Nat) = 37 := hc.2.1
  cases this
theorem LanesAt.kept (h : LanesAt w M lb ln pl lv ps) (hs : w.heap.size ≤ w'.heap.size) (hk : ∀ b, M b → b < w.heap.size → w'.heap[b]? = w.heap[b]?) : LanesAt w' M lb ln pl lv ps :=
  ⟨h.at_.of (hk lb h.mine h.at_.lt), own_of h.own (fun b e => hk b (h.mown b e) (own_lt h.own e)), h.words.kept hs (fun b hb hlt => hk b hb.1 hlt), h.mine, h.mown, fun b hb => Nat.lt_of_lt_of_le (h.lt b hb) hs, h.inv⟩
theorem LanesAt.below (h : LanesAt w M lb ln pl lv ps) (hb : Below w.heap.size w w') : LanesAt w' M lb ln pl lv ps := h.kept hb.size (fun b _ hlt => hb.block b hlt)
theorem LanesAt.cells (h : LanesAt w M lb ln pl lv ps) : w.cell? ⟨lb, 0, none⟩ = some (.int .i64 ln) ∧ w.cell? ⟨lb, 1, none⟩ = some (.int .i64 pl) ∧ w.cell? ⟨lb, 2, none⟩ = some lv ∧ w.frozen? ⟨lb, 2, none⟩ = false ∧ lb < w.heap.size := ⟨h.at_.cell 0, h.at_.cell 1, h.at_.cell 2, h.at_.frozen 2, h.at_.lt⟩
theorem LanesAt.msgs (h : LanesAt w M lb ln pl lv ps) : MsgsAt (fun b => M b) M w lv ps := by
  have h1 := MsgsAt.of_own h.own h.words
  obtain ⟨ao, cap, hv, hl, hw, hx⟩ := h1
  refine ⟨ao, cap, hv, hl, hw.mono (fun b hb _ => hb.1), ?_⟩
  rcases hx with hx | ⟨g, o, h1, h2, h3, h4⟩
  · exact .inl hx
  · by_cases hps : ps = []
    · exact .inl hps
    · refine .inr ⟨g, o, h1, ?_, h3, h4⟩
      rcases h.own.2 with ⟨_, h0⟩ | ⟨g2, cap2, cur, e2, _⟩
      · exact absurd (List.eq_nil_of_length_eq_zero h0) hps
      · have e : lv.ownBlock = some g := by rw [hv, h1] at e2 ⊢; simp only [Value.slice.injEq, Option.some.injEq, Addr.mk.injEq] at e2; rw [e2.1.2.1]; rfl
        exact h.mown g e
theorem LanesAt.len (h : LanesAt w M lb ln pl lv ps) : ps.length ≤ 24 := by have := h.inv.len; simpa using this
theorem LanesAt.short (h : LanesAt w M lb ln pl lv ps) : ∀ p ∈ ps, p.2.words.length ≤ 17592186044416 := fun p hp => h.inv.short p.2 (List.mem_map_of_mem hp)
/-- Lanes that hold just these messages. -/
def LanesM (w : World) (M : Nat → Prop) (lb : Nat) (ln pl : Int) (ms : List Msg) : Prop := ∃ lv ps, ps.map Prod.snd = ms ∧ LanesAt w M lb ln pl lv ps
theorem LanesM.kept (h : LanesM w M lb ln pl ms) (hs : w.heap.size ≤ w'.heap.size) (hk : ∀ b, M b → b < w.heap.size → w'.heap[b]? = w.heap[b]?) : LanesM w' M lb ln pl ms := by
  obtain ⟨lv, ps, he, h⟩ := h; exact ⟨lv, ps, he, h.kept hs hk⟩
theorem LanesM.below (h : LanesM w M lb ln pl ms) (hb : Below w.heap.size w w') : LanesM w' M lb ln pl ms := h.kept hb.size (fun b _ hlt => hb.block b hlt)
theorem LanesM.inv (h : LanesM w M lb ln pl ms) : LInv ln pl ms := by obtain ⟨lv, ps, rfl, h⟩ := h; exact h.inv
theorem LanesM.lt (h : LanesM w M lb ln pl ms) : ∀ b, M b → b < w.heap.size := by obtain ⟨lv, ps, rfl, h⟩ := h; exact h.lt
/-- A slice that reads as these messages, in blocks of kind ok. -/
def MsgsR (ok : Nat → Prop) (w : World) (v : Value) (ms : List Msg) : Prop := ∃ qs : List (Value × Msg), qs.map Prod.snd = ms ∧ MsgsAt ok ok w v qs
theorem MsgsR.below {ok : Nat → Prop} {v : Value} (h : MsgsR ok w v ms) (hb : Below w.heap.size w w') : MsgsR ok w' v ms := by obtain ⟨qs, e, h⟩ := h; exact ⟨qs, e, h.below hb⟩
theorem MsgsR.kept {ok : Nat → Prop} {v : Value} (h : MsgsR ok w v ms) (hs : w.heap.size ≤ w'.heap.size) (hk : ∀ b, ok b → b < w.heap.size → w'.heap[b]? = w.heap[b]?) : MsgsR ok w' v ms := by obtain ⟨qs, e, h⟩ := h; exact ⟨qs, e, h.kept hs (fun b hb => by rcases hb with hb | hb <;> exact hk b hb)⟩
theorem MsgsR.mono {ok ok' : Nat → Prop} {v : Value} (h : MsgsR ok w v ms) (hk : ∀ b, ok b → b < w.heap.size → ok' b) : MsgsR ok' w v ms := by obtain ⟨qs, e, h⟩ := h; exact ⟨qs, e, h.mono hk hk⟩
theorem MsgsR.grow {v : Value} (h : MsgsR (fun b => ¬ M b) w v ms) (hc : Chg M w w') : MsgsR (fun b => ¬ K.grow M w w' b) w' v ms := by obtain ⟨qs, e, h⟩ := h; exact ⟨qs, e, h.grow hc⟩
theorem MsgsR.shape {ok : Nat → Prop} {v : Value} (h : MsgsR ok w v ms) : ∃ ao cap, v = .slice ao ms.length cap := by obtain ⟨qs, e, h⟩ := h; obtain ⟨ao, cap, hv⟩ := h.shape; exact ⟨ao, cap, by rw [hv, ← e]; simp⟩
theorem MsgsR.nil (ok : Nat → Prop) (w : World) : MsgsR ok w (.slice none 0 0) [] := ⟨[], rfl, MsgsAt.nil _ _ _⟩
end
def lnT (n : Int) : Int := min (max n 1) 3
def plT (n : Int) : Int := min (max n 1) 8
theorem new_c (w : World) (lanes places : Int) : Calls Try.prog 24 #[.int .i64 lanes, .int .i64 places] w fun e w' => ∃ lb, e = .returned (.pointer (some ⟨lb, 0, none⟩)) ∧ LanesM w' (fun b => w.heap.size ≤ b ∧ b < w'.heap.size) lb (lnT lanes) (plT places) [] ∧ Below w.heap.size w w' := by
  have h1 := minTwo
  have h2 := maxTwo
  go_enter Try.func24, Try.ntmps24
  go_wp2
  go_ret
  refine ⟨w.heap.size, rfl, ⟨.slice none 0 0, [], rfl, ⟨heap_at _ _ _ rfl, World.ownsRow_nil _ _ _ _, WordsIn.nil _ _, ⟨Nat.le_refl _, by simp⟩, fun b h => (by cases h), fun b h => h.2, ⟨by unfold lnT; omega, by unfold plT; omega, fun m h => (by cases h), fun k => by simp; unfold plT; omega, fun m h => (by cases h)⟩⟩⟩, (Below.refl _ _).alloc (Nat.le_refl _) _⟩
section
variable {w w' : World} {M : Nat → Prop} {lb : Nat} {ln pl : Int} {lv : Value} {ps : List (Value × Msg)} {ms : List Msg}
theorem len_nil (w : World) : Calls Try.prog 42 #[.pointer none] w fun e w' => e = .returned (.int .i64 0) ∧ w = w' := by
  go_enter Try.func42, Try.ntmps42
  go_wp2
  go_ret
  exact ⟨rfl, rfl⟩
theorem len_c (h : LanesM w M lb ln pl ms) : Calls Try.prog 42 #[.pointer (some ⟨lb, 0, none⟩)] w fun e w' => e = .returned (.int .i64 ms.length) ∧ w = w' := by
  obtain ⟨lv, ps, rfl, h⟩ := h
  obtain ⟨c0, c1, c2, f2, hl⟩ := h.cells
  obtain ⟨al, cl, rfl⟩ := own_shape h.own
  replace h := hid h
  rw [List.length_map]
  go_enter Try.func42, Try.ntmps42
  go_wp2
  go_ret
  exact ⟨rfl, rfl⟩
/-- There is such a lane. -/
def isT (ln k : Int) : Bool := decide (0 ≤ k ∧ k < ln)
theorem is_nil (w : World) (k : Int) : Calls Try.prog 50 #[.pointer none, .int .i64 k] w fun e w' => e = .returned (.bool false) ∧ w = w' := by
  go_enter Try.func50, Try.ntmps50
  go_wp2
  go_ret
  exact ⟨rfl, rfl⟩
theorem is_c (h : LanesM w M lb ln pl ms) (k : Int) : Calls Try.prog 50 #[.pointer (some ⟨lb, 0, none⟩), .int .i64 k] w fun e w' => e = .returned (.bool (isT ln k)) ∧ w = w' := by
  obtain ⟨lv, ps, rfl, h⟩ := h
  obtain ⟨c0, c1, c2, f2, hl⟩ := h.cells
  obtain ⟨al, cl, rfl⟩ := own_shape h.own
  replace h := hid h
  by_cases h0 : 0 ≤ k
  · by_cases h1 : k < ln
    · have hf := hid (show isT ln k = true by unfold isT; simp [h0, h1])
      go_enter Try.func50, Try.ntmps50
      go_wp2
      go_ret
      exact ⟨by rw [hf.out] <;> rfl, rfl⟩
    · have hf := hid (show isT ln k = false by unfold isT; simp; omega)
      have h2 : decide (k < ln) = false := by simpa using h1
      go_enter Try.func50, Try.ntmps50
      go_wp2
      go_ret
      exact ⟨by rw [hf.out] <;> rfl, rfl⟩
  · have hf := hid (show isT ln k = false by unfold isT; simp; omega)
    have h2 : decide (0 ≤ k) = false := by simpa using h0
    go_enter Try.func50, Try.ntmps50
    go_wp2
    go_ret
    exact ⟨by rw [hf.out] <;> rfl, rfl⟩
end
end Go.Proofs.Ytggfallodkbgcaa.La
