/- DERIVED. Lanes in memory; walks: New, Len, is, clones, All. No statement is proved here. -/
/- DERIVED. Walks over lanes: clones, All, slices.DeleteFunc at lane's closure, Of, Room, Peek. No statement is proved here. -/
/- DERIVED. Walks over lanes: slices.IndexFunc and slices.DeleteFunc at lane's closure (messages of one lane), Of, Room, Peek. No statement is proved here. -/
/- DERIVED. Walks over lanes: Room, Peek, Put. No statement is proved here. -/
/- DERIVED. Walks over lanes: Put. No statement is proved here. -/
import Derived.Test.YtggfallodkbgcaaSortAll
import Derived.Deep.RegionLaw
import Derived.Deep.AppendLies
namespace Go.Proofs.Ytggfallodkbgcaa.La
set_option linter.unusedVariables false
set_option linter.unusedSimpArgs false
open Go.RowKit Go.Proofs.Ytggfallodkbgcaa.K Go.Proofs.Ytggfallodkbgcaa.Sp Go.Proofs.Ytggfallodkbgcaa.Lb Go.Proofs.Ytggfallodkbgcaa.So
def lane1 (m : Msg) : Int := m.lane
/-- Messages by their lanes; those of one lane as they are. -/
def sortM (ms : List Msg) : List Msg := sortL lane1 ms
theorem sort_snd (ps : List (Value × Msg)) : (sortL laneOf ps).map Prod.snd = sortM (ps.map Prod.snd) := by
  refine sortL_of ⟨by simp [sortL_len], fun k => ?_⟩ (List.pairwise_map.2 (sortL_srt ps))
  have e : ∀ l : List (Value × Msg), (l.map Prod.snd).filter (fun m => lane1 m == k) = (l.filter (fun p => laneOf p == k)).map Prod.snd := fun l => by rw [List.filter_map]; rfl
  rw [e, e, sortL_row]
theorem len_lanes : ∀ ms : List Msg, (∀ m ∈ ms, 0 ≤ m.lane ∧ m.lane < 3) → ms.length = (ms.filter (fun m => m.lane == 0)).length + (ms.filter (fun m => m.lane == 1)).length + (ms.filter (fun m => m.lane == 2)).length
  | [], _ => rfl
  | m :: ms, h => by
    have ih := len_lanes ms (fun q hq => h q (by simp [hq]))
    have hm := h m (by simp)
    have : m.lane = 0 ∨ m.lane = 1 ∨ m.lane = 2 := by omega
    rcases this with e | e | e <;> simp [List.filter_cons, e] <;> omega
/-- What lanes hold: few of each lane. -/
structure LInv (ln pl : Int) (ms : List Msg) : Prop where
  l : 1 ≤ ln ∧ ln ≤ 3
  p : 1 ≤ pl ∧ pl ≤ 8
  lane : ∀ m ∈ ms, 0 ≤ m.lane ∧ m.lane < ln
  few : ∀ k, ((ms.filter (fun m => m.lane == k)).length : Int) ≤ pl
  short : ∀ m ∈ ms, m.words.length ≤ 17592186044416
theorem LInv.len {ln pl : Int} {ms : List Msg} (h : LInv ln pl ms) : ms.length ≤ 24 := by
  have h1 := len_lanes ms (fun m hm => by have := h.lane m hm; have := h.l; omega)
  have h2 := h.few 0
  have h3 := h.few 1
  have h4 := h.few 2
  have := h.p
  omega
theorem LInv.sub {ln pl : Int} {ms : List Msg} (h : LInv ln pl ms) (f : Msg → Bool) : LInv ln pl (ms.filter f) := by
  refine ⟨h.l, h.p, fun m hm => h.lane m (List.mem_filter.1 hm).1, fun k => ?_, fun m hm => h.short m (List.mem_filter.1 hm).1⟩
  have h1 : ((ms.filter f).filter (fun m => m.lane == k)).length ≤ (ms.filter (fun m => m.lane == k)).length := by
    rw [List.filter_filter, List.filter_congr (q := fun m => f m && (m.lane == k)) (fun m _ => Bool.and_comm _ _), ← List.filter_filter]
    exact List.length_filter_le _ _
  have := h.few k
  omega
theorem LInv.stab {ln pl : Int} {ms ms' : List Msg} (h : LInv ln pl ms) (hs : Stab lane1 ms ms') : LInv ln pl ms' :=
  ⟨h.l, h.p, fun m hm => h.lane m (hs.mem.2 hm), fun k => by have := hs.row k; have h2 := h.few k; unfold lane1 at this; rw [this] at h2; exact h2, fun m hm => h.short m (hs.mem.2 hm)⟩
theorem LInv.sort {ln pl : Int} {ms : List Msg} (h : LInv ln pl ms) : LInv ln pl (sortM ms) := h.stab (sortL_stab ms)
theorem LInv.add {ln pl : Int} {ms : List Msg} (h : LInv ln pl ms) {m : Msg} (h1 : 0 ≤ m.lane ∧ m.lane < ln) (h2 : ((ms.filter (fun q => q.lane == m.lane)).length : Int) < pl) (h3 : m.words.length ≤ 17592186044416) : LInv ln pl (ms ++ [m]) := by
  refine ⟨h.l, h.p, fun q hq => ?_, fun k => ?_, fun q hq => ?_⟩
  · rcases List.mem_append.1 hq with hq | hq
    · exact h.lane q hq
    · simp at hq; subst hq; exact h1
  · rw [List.filter_append, List.length_append]
    by_cases hk : m.lane = k
    · subst hk; simp; omega
    · have := h.few k; simp [hk]; omega
  · rcases List.mem_append.1 hq with hq | hq
    · exact h.short q hq
    · simp at hq; subst hq; exact h3
/-- Lanes: their struct's block; their row; all of their blocks are of M. -/
structure LanesAt (w : World) (M : Nat → Prop) (lb : Nat) (ln pl : Int) (lv : Value) (ps : List (Value × Msg)) : Prop where
  at_ : pts w lb [.int .i64 ln, .int .i64 pl, lv] 90
  own : w.ownsRow 0 37 5 lv ps.length (flat encM ps)
  words : WordsIn (fun b => M b ∧ b ≠ lb ∧ lv.ownBlock ≠ some b) w ps
  mine : M lb
  mown : ∀ b, lv.ownBlock = some b → M b
  lt : ∀ b, M b → b < w.heap.size
  inv : LInv ln pl (ps.map Prod.snd)
section
variable {w w' : World} {M : Nat → Prop} {lb : Nat} {ln pl : Int} {lv : Value} {ps : List (Value × Msg)} {ms : List Msg}
theorem LanesAt.ne (h : LanesAt w M lb ln pl lv ps) : ∀ b, lv.ownBlock = some b → b ≠ lb := fun b hb e => by
  obtain ⟨cs, hc⟩ := own_at h.own hb
  subst e
  have h1 := h.at_
  unfold pts at h1
  rw [h1] at hc
  simp only [Option.some.injEq, Obj.cells.injEq] at hc
  have : (90 : Nat) = 37 := hc.2.1
  cases this
theorem LanesAt.kept (h : LanesAt w M lb ln pl lv ps) (hs : w.heap.size ≤ w'.heap.size) (hk : ∀ b, M b → b < w.heap.size → w'.heap[b]? = w.heap[b]?) : LanesAt w' M lb ln pl lv ps :=
  ⟨h.at_.of (hk lb h.mine h.at_.lt), own_of h.own (fun b e => hk b (h.mown b e) (own_lt h.own e)), h.words.kept hs (fun b hb hlt => hk b hb.1 hlt), h.mine, h.mown, fun b hb => Nat.lt_of_lt_of_le (h.lt b hb) hs, h.inv⟩
theorem LanesAt.below (h : LanesAt w M lb ln pl lv ps) (hb : Below w.heap.size w w') : LanesAt w' M lb ln pl lv ps := h.kept hb.size (fun b _ hlt => hb.block b hlt)
theorem LanesAt.cells (h : LanesAt w M lb ln pl lv ps) : w.cell? ⟨lb, 0, none⟩ = some (.int .i64 ln) ∧ w.cell? ⟨lb, 1, none⟩ = some (.int .i64 pl) ∧ w.cell? ⟨lb, 2, none⟩ = some lv ∧ w.frozen? ⟨lb, 2, none⟩ = false ∧ lb < w.heap.size := ⟨h.at_.cell 0, h.at_.cell 1, h.at_.cell 2, h.at_.frozen 2, h.at_.lt⟩
theorem LanesAt.msgs (h : LanesAt w M lb ln pl lv ps) : MsgsAt (fun b => M b) M w lv ps := by
  have h1 := MsgsAt.of_own h.own h.words
  obtain ⟨ao, cap, hv, hl, hw, hx⟩ := h1
  refine ⟨ao, cap, hv, hl, hw.mono (fun b hb _ => hb.1), ?_⟩
  rcases hx with hx | ⟨g, o, h1, h2, h3, h4⟩
  · exact .inl hx
  · by_cases hps : ps = []
    · exact .inl hps
    · refine .inr ⟨g, o, h1, ?_, h3, h4⟩
      rcases h.own.2 with ⟨_, h0⟩ | ⟨g2, cap2, cur, e2, _⟩
      · exact absurd (List.eq_nil_of_length_eq_zero h0) hps
      · have e : lv.ownBlock = some g := by rw [hv, h1] at e2 ⊢; simp only [Value.slice.injEq, Option.some.injEq, Addr.mk.injEq] at e2; rw [e2.1.2.1]; rfl
        exact h.mown g e
theorem LanesAt.len (h : LanesAt w M lb ln pl lv ps) : ps.length ≤ 24 := by have := h.inv.len; simpa using this
theorem LanesAt.short (h : LanesAt w M lb ln pl lv ps) : ∀ p ∈ ps, p.2.words.length ≤ 17592186044416 := fun p hp => h.inv.short p.2 (List.mem_map_of_mem hp)
/-- Lanes that hold just these messages. -/
def LanesM (w : World) (M : Nat → Prop) (lb : Nat) (ln pl : Int) (ms : List Msg) : Prop := ∃ lv ps, ps.map Prod.snd = ms ∧ LanesAt w M lb ln pl lv ps
theorem LanesM.kept (h : LanesM w M lb ln pl ms) (hs : w.heap.size ≤ w'.heap.size) (hk : ∀ b, M b → b < w.heap.size → w'.heap[b]? = w.heap[b]?) : LanesM w' M lb ln pl ms := by
  obtain ⟨lv, ps, he, h⟩ := h; exact ⟨lv, ps, he, h.kept hs hk⟩
theorem LanesM.below (h : LanesM w M lb ln pl ms) (hb : Below w.heap.size w w') : LanesM w' M lb ln pl ms := h.kept hb.size (fun b _ hlt => hb.block b hlt)
theorem LanesM.inv (h : LanesM w M lb ln pl ms) : LInv ln pl ms := by obtain ⟨lv, ps, rfl, h⟩ := h; exact h.inv
theorem LanesM.lt (h : LanesM w M lb ln pl ms) : ∀ b, M b → b < w.heap.size := by obtain ⟨lv, ps, rfl, h⟩ := h; exact h.lt
/-- A slice that reads as these messages, in blocks of kind ok. -/
def MsgsR (ok : Nat → Prop) (w : World) (v : Value) (ms : List Msg) : Prop := ∃ qs : List (Value × Msg), qs.map Prod.snd = ms ∧ MsgsAt ok ok w v qs
theorem MsgsR.below {ok : Nat → Prop} {v : Value} (h : MsgsR ok w v ms) (hb : Below w.heap.size w w') : MsgsR ok w' v ms := by obtain ⟨qs, e, h⟩ := h; exact ⟨qs, e, h.below hb⟩
theorem MsgsR.kept {ok : Nat → Prop} {v : Value} (h : MsgsR ok w v ms) (hs : w.heap.size ≤ w'.heap.size) (hk : ∀ b, ok b → b < w.heap.size → w'.heap[b]? = w.heap[b]?) : MsgsR ok w' v ms := by obtain ⟨qs, e, h⟩ := h; exact ⟨qs, e, h.kept hs (fun b hb => by rcases hb with hb | hb <;> exact hk b hb)⟩
theorem MsgsR.mono {ok ok' : Nat → Prop} {v : Value} (h : MsgsR ok w v ms) (hk : ∀ b, ok b → b < w.heap.size → ok' b) : MsgsR ok' w v ms := by obtain ⟨qs, e, h⟩ := h; exact ⟨qs, e, h.mono hk hk⟩
theorem MsgsR.grow {v : Value} (h : MsgsR (fun b => ¬ M b) w v ms) (hc : Chg M w w') : MsgsR (fun b => ¬ K.grow M w w' b) w' v ms := by obtain ⟨qs, e, h⟩ := h; exact ⟨qs, e, h.grow hc⟩
theorem MsgsR.shape {ok : Nat → Prop} {v : Value} (h : MsgsR ok w v ms) : ∃ ao cap, v = .slice ao ms.length cap := by obtain ⟨qs, e, h⟩ := h; obtain ⟨ao, cap, hv⟩ := h.shape; exact ⟨ao, cap, by rw [hv, ← e]; simp⟩
theorem MsgsR.nil (ok : Nat → Prop) (w : World) : MsgsR ok w (.slice none 0 0) [] := ⟨[], rfl, MsgsAt.nil _ _ _⟩
end
def lnT (n : Int) : Int := min (max n 1) 3
def plT (n : Int) : Int := min (max n 1) 8
theorem new_c (w : World) (lanes places : Int) : Calls Try.prog 24 #[.int .i64 lanes, .int .i64 places] w fun e w' => ∃ lb, e = .returned (.pointer (some ⟨lb, 0, none⟩)) ∧ LanesM w' (fun b => w.heap.size ≤ b ∧ b < w'.heap.size) lb (lnT lanes) (plT places) [] ∧ Below w.heap.size w w' := by
  have h1 := minTwo
  have h2 := maxTwo
  go_enter Try.func24, Try.ntmps24
  go_wp2
  go_ret
  refine ⟨w.heap.size, rfl, ⟨.slice none 0 0, [], rfl, ⟨heap_at _ _ _ rfl, World.ownsRow_nil _ _ _ _, WordsIn.nil _ _, ⟨Nat.le_refl _, by simp⟩, fun b h => (by cases h), fun b h => h.2, ⟨by unfold lnT; omega, by unfold plT; omega, fun m h => (by cases h), fun k => by simp; unfold plT; omega, fun m h => (by cases h)⟩⟩⟩, (Below.refl _ _).alloc (Nat.le_refl _) _⟩
section
variable {w w' : World} {M : Nat → Prop} {lb : Nat} {ln pl : Int} {lv : Value} {ps : List (Value × Msg)} {ms : List Msg}
theorem len_nil (w : World) : Calls Try.prog 42 #[.pointer none] w fun e w' => e = .returned (.int .i64 0) ∧ w = w' := by
  go_enter Try.func42, Try.ntmps42
  go_wp2
  go_ret
  exact ⟨rfl, rfl⟩
theorem len_c (h : LanesM w M lb ln pl ms) : Calls Try.prog 42 #[.pointer (some ⟨lb, 0, none⟩)] w fun e w' => e = .returned (.int .i64 ms.length) ∧ w = w' := by
  obtain ⟨lv, ps, rfl, h⟩ := h
  obtain ⟨c0, c1, c2, f2, hl⟩ := h.cells
  obtain ⟨al, cl, rfl⟩ := own_shape h.own
  replace h := hid h
  rw [List.length_map]
  go_enter Try.func42, Try.ntmps42
  go_wp2
  go_ret
  exact ⟨rfl, rfl⟩
/-- There is such a lane. -/
def isT (ln k : Int) : Bool := decide (0 ≤ k ∧ k < ln)
theorem is_nil (w : World) (k : Int) : Calls Try.prog 50 #[.pointer none, .int .i64 k] w fun e w' => e = .returned (.bool false) ∧ w = w' := by
  go_enter Try.func50, Try.ntmps50
  go_wp2
  go_ret
  exact ⟨rfl, rfl⟩
theorem is_c (h : LanesM w M lb ln pl ms) (k : Int) : Calls Try.prog 50 #[.pointer (some ⟨lb, 0, none⟩), .int .i64 k] w fun e w' => e = .returned (.bool (isT ln k)) ∧ w = w' := by
  obtain ⟨lv, ps, rfl, h⟩ := h
  obtain ⟨c0, c1, c2, f2, hl⟩ := h.cells
  obtain ⟨al, cl, rfl⟩ := own_shape h.own
  replace h := hid h
  by_cases h0 : 0 ≤ k
  · by_cases h1 : k < ln
    · have hf := hid (show isT ln k = true by unfold isT; simp [h0, h1])
      go_enter Try.func50, Try.ntmps50
      go_wp2
      go_ret
      exact ⟨by rw [hf.out] <;> rfl, rfl⟩
    · have hf := hid (show isT ln k = false by unfold isT; simp; omega)
      have h2 : decide (k < ln) = false := by simpa using h1
      go_enter Try.func50, Try.ntmps50
      go_wp2
      go_ret
      exact ⟨by rw [hf.out] <;> rfl, rfl⟩
  · have hf := hid (show isT ln k = false by unfold isT; simp; omega)
    have h2 : decide (0 ≤ k) = false := by simpa using h0
    go_enter Try.func50, Try.ntmps50
    go_wp2
    go_ret
    exact ⟨by rw [hf.out] <;> rfl, rfl⟩
end
end Go.Proofs.Ytggfallodkbgcaa.La

namespace Go.Proofs.Ytggfallodkbgcaa.La
set_option linter.unusedVariables false
set_option linter.unusedSimpArgs false
open Go.RowKit Go.Proofs.Ytggfallodkbgcaa.K Go.Proofs.Ytggfallodkbgcaa.Sp Go.Proofs.Ytggfallodkbgcaa.Lb Go.Proofs.Ytggfallodkbgcaa.So
def ClonesPost (w : World) (ps : List (Value × Msg)) (e : Ending) (w' : World) : Prop :=
  ∃ v' qs, e = .returned v' ∧ qs.map Prod.snd = ps.map Prod.snd ∧ w'.ownsRow w.heap.size 37 5 v' qs.length (flat encM qs) ∧ WordsIn (fun b => w.heap.size ≤ b ∧ v'.ownBlock ≠ some b) w' qs ∧ Below w.heap.size w w'
set_option maxHeartbeats 2000000 in
theorem clones_c {ok okw : Nat → Prop} {w : World} {v : Value} {ps : List (Value × Msg)} (hms : MsgsAt ok okw w v ps) (hsm : ps.length < 1000000) (hwl : ∀ p ∈ ps, p.2.words.length ≤ 17592186044416) : Calls Try.prog 54 #[v] w (ClonesPost w ps) := by
  obtain ⟨al, cl, rfl⟩ := hms.shape
  obtain ⟨-, hl1, hm1, hget⟩ := hms.get
  replace hget := hid hget
  replace hwl := hid hwl
  clear hms
  go_enter Try.func54, Try.ntmps54
  go_wp2
  go_loopg [8, 3] ps.length (fun g i uo wr => ∃ (k : Nat) (vo : Value) (qs : List (Value × Msg)), k ≤ ps.length ∧ g = ps.length - k ∧ i = .int .i64 k ∧ vo = uo ∧ qs.map Prod.snd = (ps.take k).map Prod.snd ∧ wr.ownsRow w.heap.size 37 5 vo qs.length (flat encM qs) ∧ WordsIn (fun b => w.heap.size ≤ b ∧ vo.ownBlock ≠ some b) wr qs ∧ Below w.heap.size w wr)
  case atStart => exact ⟨0, _, [], Nat.zero_le _, rfl, rfl, rfl, rfl, World.ownsRow_nil _ _ _ _, WordsIn.nil _ _, Below.refl _ _⟩
  case round =>
    obtain ⟨k, vo, qs, hk, hgk, rfl, rfl, hq, ho, hw, hb⟩ := hrel
    by_cases hlt : k < ps.length
    · obtain ⟨ga, oa, rfl, -, hga, x0, x1, x2, x3, x4, hw1⟩ := hget.out k hlt
      have x0 := (hb.cell (p := ⟨ga, oa + k * 5, none⟩) hga).trans x0
      have x1 := (hb.cell (p := ⟨ga, oa + k * 5 + 1, none⟩) hga).trans x1
      have x2 := (hb.cell (p := ⟨ga, oa + k * 5 + 2, none⟩) hga).trans x2
      have x3 := (hb.cell (p := ⟨ga, oa + k * 5 + 3, none⟩) hga).trans x3
      have x4 := (hb.cell (p := ⟨ga, oa + k * 5 + 4, none⟩) hga).trans x4
      have hw1 := hw1.below hb
      have hwk := hwl.out _ (List.getElem_mem hlt)
      have hql : qs.length = k := by have := congrArg List.length hq; simp at this; omega
      have hq1 : ∀ sv, (qs ++ [(sv, ps[k].2)]).map Prod.snd = (ps.take (k + 1)).map Prod.snd := fun sv => by rw [List.take_succ_eq_append_getElem hlt, List.map_append, List.map_append, hq]; rfl
      obtain ⟨as1, cs1, hs1⟩ := hw1.shape
      rw [hs1] at x0 hw1
      clear hs1
      generalize ps[k].2 = m at x0 x1 x2 x3 x4 hw1 hwk hq1
      obtain ⟨ao, co, rfl⟩ := own_shape ho
      have hbs := hb.size
      have hb1 := (Below.refl wr.heap.size wr).alloc (Nat.le_refl _) (.cells #[.slice as1 m.words.length cs1, .int .i64 m.lane, .int .i64 m.stamp, .int .i64 m.late, .int .i64 m.seq] 37)
      have hcl : Calls Try.prog 53 #[.agg #[.slice as1 m.words.length cs1, .int .i64 m.lane, .int .i64 m.stamp, .int .i64 m.late, .int .i64 m.seq]] (wr.alloc (.cells #[.slice as1 m.words.length cs1, .int .i64 m.lane, .int .i64 m.stamp, .int .i64 m.late, .int .i64 m.seq] 37)) fun e w' => ∃ v', e = .returned (.agg #[v', .int .i64 m.lane, .int .i64 m.stamp, .int .i64 m.late, .int .i64 m.seq]) ∧ IntsAt (fun b => (wr.alloc (.cells #[.slice as1 m.words.length cs1, .int .i64 m.lane, .int .i64 m.stamp, .int .i64 m.late, .int .i64 m.seq] 37)).heap.size ≤ b) w' v' m.words ∧ Below (wr.alloc (.cells #[.slice as1 m.words.length cs1, .int .i64 m.lane, .int .i64 m.stamp, .int .i64 m.late, .int .i64 m.seq] 37)).heap.size (wr.alloc (.cells #[.slice as1 m.words.length cs1, .int .i64 m.lane, .int .i64 m.stamp, .int .i64 m.late, .int .i64 m.seq] 37)) w' := mclone_c (p := (.slice as1 m.words.length cs1, m)) (hw1.below hb1) hwk
      clear hw1
      have hcl := hid hcl
      have hb := hid hb
      have hb1 := hid hb1
      have ho := hid ho
      have hw := hid hw
      have hq1 := hid hq1
      replace hq := hid hq
      replace hql := hid hql
      go_wp2_with (first | (go_at_call 53; (with_reducible refine (hcl.out).mono ?_); rintro e w2 ⟨v', rfl, hi2, hb2⟩; obtain ⟨av, cv, rfl⟩ := hi2.shape; have hz2 := hb2.size; have hb12 := hid (Below.next hb1.out hb2 (by simp)); have hi2 := hid hi2; clear hb2) | (at_builtin; (refine wpList_push2 rfl (.tmp 12) (.tmp 15) 41 rfl elMsg (v := .slice ao qs.length co) rfl ((own_of ho.out (fun b e => hb12.out.block b (own_lt ho.out e))).alloc _) (by simp at hz2 ⊢; omega) rfl (news := encM (.slice av m.words.length cv, m)) rfl (heap_at _ _ _ (by simp)) (by simp [encM, Value.oneCell']) (by omega) (by have := hql.out; unfold maxLen; omega) (by have := hql.out; omega) ?_; intro g' cap' w5 hown5 hg5 hor5 hlt5; have hB5 := hid (((Below.next hb.out hb12.out hbs).alloc (by simp at hz2 ⊢; omega) _).grown hg5 (by simp at hz2 ⊢; omega) (fun c hc => own_block_ge ho.out c hc)); have hown5 := hid hown5; have hg5 := hid hg5; have hor5 := hid hor5)))
      have hlt2 : w2.heap.size < (w2.alloc (.cells #[.slice av m.words.length cv, .int .i64 m.lane, .int .i64 m.stamp, .int .i64 m.late, .int .i64 m.seq] 37)).heap.size := by simp
      have hwz : wr.heap.size + 1 ≤ w2.heap.size := by simpa using hz2
      have hWq : WordsIn (fun b => w.heap.size ≤ b ∧ (Value.slice (some ⟨g', 0, none⟩) (qs.length + 1) cap').ownBlock ≠ some b) w5 (qs ++ [(.slice av m.words.length cv, m)]) := by
        refine WordsIn.snoc ?_ ?_
        · have h1 := hw.out.below (hb12.out.alloc (by omega) (.cells #[.slice av m.words.length cv, .int .i64 m.lane, .int .i64 m.stamp, .int .i64 m.late, .int .i64 m.seq] 37))
          refine (h1.kept (w' := w5) hg5.out.size (fun b hb' hlt => hg5.out.block b hlt (fun e => hb'.2 e.symm))).mono' (fun b hb' hlt => ⟨hb'.1, fun e => ?_⟩) hw.out
          have e : g' = b := by simpa [Value.ownBlock] using e
          rcases hor5.out with e2 | e2
          · exact hb'.2 (e ▸ e2)
          · omega
        · have h1 : IntsAt (fun b => wr.heap.size + 1 ≤ b ∧ b < w2.heap.size) w2 (.slice av m.words.length cv) m.words := hi2.out.mono (fun b h h' => ⟨by simpa using h, h'⟩)
          have h2 := h1.below ((Below.refl w2.heap.size w2).alloc (Nat.le_refl _) (.cells #[.slice av m.words.length cv, .int .i64 m.lane, .int .i64 m.stamp, .int .i64 m.late, .int .i64 m.seq] 37))
          refine (h2.kept (w' := w5) hg5.out.size (fun b hb' hlt => hg5.out.block b hlt (fun e => by have := own_lt ho.out e.symm; omega))).mono (fun b hb' _ => ⟨by omega, fun e => ?_⟩)
          have e : g' = b := by simpa [Value.ownBlock] using e
          rcases hor5.out with e2 | e2
          · have := own_lt ho.out e2; omega
          · omega
      have hWq := hid hWq
      go_roundg (ps.length - (k + 1))
      case rel => exact ⟨k + 1, _, qs ++ [(.slice av m.words.length cv, m)], by omega, rfl, by go_num, rfl, hq1.out _, by rw [List.length_append, flat_append, flat_single]; exact hown5.out, hWq.out, hB5.out⟩
      case measure => omega
    · obtain rfl : k = ps.length := by omega
      rw [List.take_length] at hq
      obtain ⟨ao, co, rfl⟩ := own_shape ho
      have hfin := hid (show ClonesPost w ps _ _ from ⟨_, qs, rfl, hq, ho, hw, hb⟩)
      clear ho hw hb hq
      go_wp2
      go_ret
      exact hfin.out
section
variable {w w' : World} {M : Nat → Prop} {lb : Nat} {ln pl : Int} {lv : Value} {ps : List (Value × Msg)} {ms : List Msg}
theorem all_nil (w : World) : Calls Try.prog 35 #[.pointer none] w fun e w' => e = .returned (.slice none 0 0) ∧ w = w' := by
  go_enter Try.func35, Try.ntmps35
  go_wp2
  go_ret
  exact ⟨rfl, rfl⟩
/-- Copies of all, in memory of their own. -/
def AllPost (w : World) (ms : List Msg) (e : Ending) (w' : World) : Prop :=
  ∃ v' qs, e = .returned v' ∧ qs.map Prod.snd = ms ∧ w'.ownsRow w.heap.size 37 5 v' qs.length (flat encM qs) ∧ WordsIn (fun b => w.heap.size ≤ b ∧ v'.ownBlock ≠ some b) w' qs ∧ Below w.heap.size w w'
theorem all_c (h : LanesM w M lb ln pl ms) : Calls Try.prog 35 #[.pointer (some ⟨lb, 0, none⟩)] w (AllPost w (sortM ms)) := by
  obtain ⟨lv, ps, rfl, h⟩ := h
  obtain ⟨c0, c1, c2, f2, hl⟩ := h.cells
  have hso := sorted_c h.msgs (by have := h.len; omega) (.inl rfl)
  have hfin : Hid (∀ (w1 w2 : World) v' qs, Below w.heap.size w w1 → qs.map Prod.snd = (sortL laneOf ps).map Prod.snd → w2.ownsRow w1.heap.size 37 5 v' qs.length (flat encM qs) → WordsIn (fun b => w1.heap.size ≤ b ∧ v'.ownBlock ≠ some b) w2 qs → Below w1.heap.size w1 w2 → AllPost w (sortM (ps.map Prod.snd)) (.returned v') w2) := hid fun w1 w2 v' qs hb hq ho hw hb2 =>
    ⟨v', qs, rfl, by rw [hq, sort_snd], own_mono ho hb.size, hw.mono (fun b hb' _ => ⟨Nat.le_trans hb.size hb'.1, hb'.2⟩), Below.next hb hb2 hb.size⟩
  have hlen := hid (show (sortL laneOf ps).length < 1000000 by rw [sortL_len]; have := h.len; omega)
  have hsh := hid (show ∀ p ∈ sortL laneOf ps, p.2.words.length ≤ 17592186044416 from fun p hp => h.short p ((sortL_mem _ _).1 hp))
  obtain ⟨al, cl, rfl⟩ := own_shape h.own
  replace h := hid h
  replace hso := hid hso
  go_enter Try.func35, Try.ntmps35
  go_wp2_with (first | (go_at_call 55; (with_reducible refine (hso.out).mono ?_); rintro e w1 ⟨v1, rfl, hm1, hb1⟩; obtain ⟨a1, c1', rfl⟩ := hm1.shape; replace hm1 := hid hm1; replace hb1 := hid hb1) | (go_at_call 54; (with_reducible refine (clones_c hm1.out hlen.out hsh.out).mono ?_); rintro e w2 ⟨v2, qs, rfl, hq2, ho2, hw2, hb2⟩; obtain ⟨a2, c2', rfl⟩ := own_shape ho2; have hf := hid (hfin.out _ _ _ _ hb1.out hq2 ho2 hw2 hb2); clear hq2 ho2 hw2 hb2))
  go_ret
  exact hf.out
end
end Go.Proofs.Ytggfallodkbgcaa.La

namespace Go.Proofs.Ytggfallodkbgcaa.La
set_option linter.unusedVariables false
set_option linter.unusedSimpArgs false
open Go.RowKit Go.Proofs.Ytggfallodkbgcaa.K Go.Proofs.Ytggfallodkbgcaa.Sp Go.Proofs.Ytggfallodkbgcaa.Lb Go.Proofs.Ytggfallodkbgcaa.So
theorem of1_c {w : World} {kb : Nat} {k : Int} (hk : w.cell? ⟨kb, 0, none⟩ = some (.int .i64 k)) (hl : kb < w.heap.size) (a : Option Addr) (n c : Nat) (m : Msg) : Calls Try.prog 64 #[.agg #[.slice a n c, .int .i64 m.lane, .int .i64 m.stamp, .int .i64 m.late, .int .i64 m.seq], .pointer (some ⟨kb, 0, none⟩)] w fun e w' => e = .returned (.bool (m.lane != k)) ∧ Below w.heap.size w w' := by
  have hne : kb ≠ w.heap.size := by omega
  go_enter Try.func64, Try.ntmps64
  go_wp2
  go_ret
  exact ⟨rfl, (Below.refl _ _).alloc (Nat.le_refl _) _⟩
section
variable {α : Type}
/-- The first that f takes away, or -1. -/
def idxF (f : α → Bool) : List α → Int
  | [] => -1
  | y :: r => if f y then 0 else if idxF f r < 0 then -1 else idxF f r + 1
theorem idxF_none {f : α → Bool} {xs : List α} (h : ∀ x ∈ xs, f x = false) : idxF f xs = -1 := by
  induction xs with
  | nil => rfl
  | cons y r ih =>
    unfold idxF
    rw [h y (by simp), ih (fun x hx => h x (by simp [hx]))]; rfl
theorem idxF_found {f : α → Bool} {xs : List α} {k : Nat} (hk : k < xs.length) (h : ∀ x ∈ xs.take k, f x = false) (he : f xs[k] = true) : idxF f xs = k := by
  induction xs generalizing k with
  | nil => simp at hk
  | cons y r ih =>
    cases k with
    | zero => simp only [List.getElem_cons_zero] at he; unfold idxF; rw [he]; rfl
    | succ k =>
      have h1 := ih (k := k) (by simpa using hk) (fun x hx => h x (by simp [hx])) he
      unfold idxF
      rw [h y (by simp), h1, if_neg (by simp), if_neg (by omega)]; omega
theorem idxF_split (f : α → Bool) (xs : List α) : ((∀ x ∈ xs, f x = false) ∧ idxF f xs = -1) ∨ ∃ k : Nat, ∃ hk : k < xs.length, (∀ x ∈ xs.take k, f x = false) ∧ f xs[k] = true ∧ idxF f xs = k := by
  induction xs with
  | nil => exact .inl ⟨by simp, rfl⟩
  | cons y r ih =>
    cases hy : f y with
    | true => exact .inr ⟨0, by simp, by simp, hy, idxF_found (by simp) (by simp) hy⟩
    | false =>
      rcases ih with ⟨h, _⟩ | ⟨k, hk, h1, h2, _⟩
      · have h' : ∀ x ∈ y :: r, f x = false := fun x hx => by rcases List.mem_cons.1 hx with rfl | hx; exact hy; exact h x hx
        exact .inl ⟨h', idxF_none h'⟩
      · have h' : ∀ x ∈ (y :: r).take (k + 1), f x = false := fun x hx => by rw [List.take_succ_cons] at hx; rcases List.mem_cons.1 hx with rfl | hx; exact hy; exact h1 x hx
        exact .inr ⟨k + 1, by simpa using hk, h', by simpa using h2, idxF_found (by simpa using hk) h' (by simpa using h2)⟩
/-- Half way: the first i are those of the first j that stay; from j on nothing has moved. -/
structure HalfG (f : α → Bool) (xs ys : List α) (i j : Nat) : Prop where
  len : ys.length = xs.length
  lo : ys.take i = (xs.take j).filter (fun x => !f x)
  hi : ys.drop j = xs.drop j
  lt : i < j
  le : j ≤ xs.length
theorem HalfG.start {f : α → Bool} {xs : List α} {k : Nat} (hk : k < xs.length) (h : ∀ x ∈ xs.take k, f x = false) (he : f xs[k] = true) : HalfG f xs xs k (k + 1) :=
  ⟨rfl, by rw [filter_take _ hk]; simp only [he]; simp; rw [List.filter_eq_self.2]; intro x hx; simp [h x hx], rfl, by omega, by omega⟩
theorem HalfG.at_ {f : α → Bool} {xs ys : List α} {i j : Nat} (h : HalfG f xs ys i j) (hj : j < xs.length) (hj' : j < ys.length) : ys[j] = xs[j] := by
  have h1 := congrArg (fun l => l[0]?) h.hi
  simp only [List.getElem?_drop, Nat.add_zero] at h1
  rw [List.getElem?_eq_getElem hj', List.getElem?_eq_getElem hj] at h1
  exact Option.some.inj h1
theorem HalfG.skip {f : α → Bool} {xs ys : List α} {i j : Nat} (h : HalfG f xs ys i j) (hj : j < xs.length) (he : f xs[j] = true) : HalfG f xs ys i (j + 1) :=
  ⟨h.len, by rw [filter_take _ hj, h.lo]; simp [he], by rw [← List.drop_drop, ← List.drop_drop, h.hi], by have := h.lt; omega, by omega⟩
theorem HalfG.keep {f : α → Bool} {xs ys : List α} {i j : Nat} (h : HalfG f xs ys i j) (hj : j < xs.length) (he : f xs[j] = false) : HalfG f xs (ys.set i xs[j]) (i + 1) (j + 1) := by
  have hl := h.len
  have hlt := h.lt
  refine ⟨by simpa using hl, ?_, ?_, by omega, by omega⟩
  · rw [filter_take _ hj, ← h.lo, List.take_succ_eq_append_getElem (by simp; omega), List.take_set, List.set_eq_of_length_le (by simp; omega)]
    simp [he]
  · rw [List.drop_set_of_lt (by omega), ← List.drop_drop, ← List.drop_drop, h.hi]
end
def otherLane (k : Int) (p : Value × Msg) : Bool := p.2.lane != k
def FnOf (kb : Nat) : Value := .func (.func 64) #[] #[.pointer (some ⟨kb, 0, none⟩)]
def IdxPost (w : World) (i : Int) (e : Ending) (w' : World) : Prop := e = .returned (.int .i64 i) ∧ Below w.heap.size w w'
set_option maxHeartbeats 1000000 in
theorem indexFunc_c {ok okw : Nat → Prop} {w : World} {v : Value} {ps : List (Value × Msg)} (h : MsgsAt ok okw w v ps) {kb : Nat} {k : Int} (hk : w.cell? ⟨kb, 0, none⟩ = some (.int .i64 k)) (hkl : kb < w.heap.size) :
    Calls Try.prog 75 #[v, FnOf kb] w (IdxPost w (idxF (otherLane k) ps)) := by
  obtain ⟨ao, cap, rfl⟩ := h.shape
  obtain ⟨-, hl, hm, -⟩ := h.get
  replace h := hid h
  unfold FnOf
  go_enter Try.func75, Try.ntmps75
  go_wp2
  go_loopg [8, 5] ps.length (fun g i i5 wr => ∃ j : Nat, j ≤ ps.length ∧ g = ps.length - j ∧ i = .int .i64 j ∧ (∀ x ∈ ps.take j, otherLane k x = false) ∧ Below w.heap.size w wr)
  case atStart => exact ⟨0, Nat.zero_le _, rfl, rfl, by simp, Below.refl _ _⟩
  case round =>
    obtain ⟨j, hj, hgj, rfl, hnot, hb⟩ := hrel
    by_cases hlt : j < ps.length
    · have hms := h.out.below hb
      obtain ⟨g, o, a1, c1, rfl, -, -, hat, -⟩ := hms.at5 hlt
      have hk' := (hb.cell (p := ⟨kb, 0, none⟩) hkl).trans hk
      have hkl' := Nat.lt_of_lt_of_le hkl hb.size
      have hcl := hid (fun (w : World) h1 h2 => of1_c (w := w) (kb := kb) (k := k) h1 h2 a1 ps[j].2.words.length c1 ps[j].2)
      have hidx := hid (fun (he : otherLane k ps[j] = true) => idxF_found hlt hnot he)
      have hnx : Hid (otherLane k ps[j] = false → ∀ x ∈ ps.take (j + 1), otherLane k x = false) := hid fun he x hx => by
        rw [List.take_succ_eq_append_getElem hlt] at hx
        rcases List.mem_append.1 hx with hx | hx
        · exact hnot x hx
        · simp at hx; subst hx; exact he
      unfold otherLane at hidx hnx
      generalize ps[j].2 = m at hat hcl hidx hnx
      obtain ⟨x0, x1, x2, x3, x4, hxl⟩ := hat
      replace hnot := hid hnot
      replace hms := hid hms
      replace hb := hid hb
      by_cases he : m.lane = k
      · have hq : (m.lane != k) = false := by simpa using he
        have hnx := hid (hnx.out hq)
        clear hidx
        replace he := hid he
        go_wp2_with (first | (go_at_call 64; (with_reducible refine (hcl.out _ hk' hkl').mono ?_); rw [hq]; rintro e w' ⟨rfl, hb'⟩; replace hb' := hid (Below.next hb.out hb' hb.out.size)))
        go_roundg (ps.length - (j + 1))
        case rel => exact ⟨j + 1, by omega, rfl, by go_num, hnx.out, hb'.out⟩
        case measure => omega
      · have hq : (m.lane != k) = true := by simpa using he
        have hix := hid (hidx.out hq)
        clear hnx
        replace he := hid he
        go_wp2_with (first | (go_at_call 64; (with_reducible refine (hcl.out _ hk' hkl').mono ?_); rw [hq]; rintro e w' ⟨rfl, hb'⟩; replace hb' := hid (Below.next hb.out hb' hb.out.size)))
        go_ret
        exact ⟨by unfold otherLane; rw [hix.out] <;> rfl, hb'.out⟩
    · obtain rfl : j = ps.length := by omega
      rw [List.take_length] at hnot
      have hi := hid (idxF_none hnot)
      clear hnot
      go_wp2
      go_ret
      exact ⟨by rw [hi.out] <;> rfl, hb⟩
theorem zeroMsg (w : World) : (zeroValue 37).run Try.prog w = .ok (.agg #[.slice none 0 0, .int .i64 0, .int .i64 0, .int .i64 0, .int .i64 0]) w := by kernel_rfl
def zeros5 (n : Nat) : List Value := (Builtin.zeroCells (Value.agg #[.slice none 0 0, .int .i64 0, .int .i64 0, .int .i64 0, .int .i64 0]).cells n).toList
theorem zeros5_len (n : Nat) : (zeros5 n).length = n * 5 := by
  unfold zeros5
  rw [Array.length_toList, size_zeroCells]; rfl
theorem zeros5_one (n : Nat) : ∀ v ∈ zeros5 n, v.oneCell' = true := by
  intro v hv
  unfold zeros5 Builtin.zeroCells at hv
  simp only [Value.cells] at hv
  simp at hv
  obtain ⟨i, hi, rfl⟩ := hv
  have : i % 5 = 0 ∨ i % 5 = 1 ∨ i % 5 = 2 ∨ i % 5 = 3 ∨ i % 5 = 4 := by omega
  rcases this with e | e | e | e | e <;> simp [e, Value.oneCell']
theorem at5_pts {w : World} {g : Nat} {T : TypeId} {s : List (Value × Msg)} {ex : List Value} (h : pts w g (flat encM s ++ ex) T) {i : Nat} (hi : i < s.length) : At5 w g (i * 5) s[i].1 s[i].2 := by
  have hc : ∀ j, j < 5 → w.cell? ⟨g, i * 5 + j, none⟩ = (encM s[i])[j]? := fun j hj => by rw [h.cell, flat_get encM_len s ex i j hi hj]
  exact ⟨hc 0 (by omega), hc 1 (by omega), hc 2 (by omega), hc 3 (by omega), hc 4 (by omega), h.lt⟩
def DelPost (w : World) (base : Nat) (v : Value) (ps : List (Value × Msg)) (k : Int) (e : Ending) (w' : World) : Prop :=
  ∃ v' qs, e = .returned v' ∧ qs = ps.filter (fun p => !otherLane k p) ∧ w'.ownsRow base 37 5 v' qs.length (flat encM qs) ∧ Chg (fun c => v.ownBlock = some c) w w' ∧ (∀ c, v'.ownBlock = some c → v.ownBlock = some c)
set_option maxHeartbeats 1000000 in
theorem deleteFunc_c {w : World} {base : Nat} {v : Value} {ps : List (Value × Msg)} {okw : Nat → Prop} (hown : w.ownsRow base 37 5 v ps.length (flat encM ps)) (hw : WordsIn okw w ps) {kb : Nat} {k : Int} (hk : w.cell? ⟨kb, 0, none⟩ = some (.int .i64 k)) (hkl : kb < w.heap.size) (hkv : v.ownBlock ≠ some kb) :
    Calls Try.prog 63 #[v, FnOf kb] w (DelPost w base v ps k) := by
  have hI := MsgsAt.of_own hown hw
  have hix0 := indexFunc_c hI hk hkl
  unfold FnOf at *
  rcases idxF_split (otherLane k) ps with ⟨hnot, hix⟩ | ⟨f, hf, hnot, hkq, hix⟩
  · rw [hix] at hix0
    have hfin : Hid (∀ w', Below w.heap.size w w' → DelPost w base v ps k (.returned v) w') := hid fun w' hb => ⟨v, ps, rfl, by rw [List.filter_eq_self.2]; intro x hx; simp [hnot x hx], own_of hown (fun b e => hb.block b (own_lt hown e)), Chg.of_below hb, fun c h => h⟩
    obtain ⟨ao, cap, rfl⟩ := hI.shape
    replace hix0 := hid hix0
    replace hI := hid hI
    clear hown hnot hix
    go_enter Try.func63, Try.ntmps63
    go_wp2_with (first | (go_at_call 75; (with_reducible refine (hix0.out).mono ?_); rintro e w' ⟨rfl, hb⟩; have hf := hid (hfin.out _ hb); clear hb))
    go_ret
    exact hf.out
  · rw [hix] at hix0
    obtain ⟨g, cap, ex, rfl, hbg, hp, hnc, hcm⟩ := own_split hown (by omega)
    have hbg' : kb ≠ g := fun e => hkv (by rw [e]; rfl)
    have hst := hid (HalfG.start hf hnot hkq)
    unfold maxLen at hcm
    have hsz : (flat encM ps ++ ex).length = cap * 5 := by
      rcases hown.2 with ⟨h, _⟩ | ⟨g', cap', cur, h1, _, hh, _, _, hcs, _⟩
      · cases h
      · simp only [Value.slice.injEq, Option.some.injEq, Addr.mk.injEq] at h1
        obtain ⟨⟨rfl, _, _⟩, _, rfl⟩ := h1
        unfold pts at hp
        rw [hp] at hh
        simp only [Option.some.injEq, Obj.cells.injEq] at hh
        rw [← hh.1] at hcs
        simpa using hcs
    have hex : ex.length = (cap - ps.length) * 5 := by
      rw [List.length_append, flat_length encM_len] at hsz
      rw [Nat.sub_mul]; omega
    replace hex := hid hex
    replace hix0 := hid hix0
    have hshp := hid (show ∀ p ∈ ps, ∃ a n c, p.1 = .slice a n c from fun p hp => let ⟨a, c, e⟩ := (hw p hp).shape; ⟨a, _, c, e⟩)
    have hw0 := hid (Chg.refl (So.Row g) w)
    have hgl := hp.lt
    have hp0 := hid hp
    clear hown hnot hkq hix hI hsz hp
    go_enter Try.func63, Try.ntmps63
    go_wp2_with (first | (go_at_call 75; (with_reducible refine (hix0.out).mono ?_); rintro e w1 ⟨rfl, hb1⟩; replace hb1 := hid hb1))
    go_loopg [5, 6] (ps.length - (f + 1)) (fun gg si sj wr => ∃ (i j : Nat) (ys : List (Value × Msg)), si = .int .i64 i ∧ sj = .int .i64 j ∧ gg = ps.length - j ∧ pts wr g (flat encM ys ++ ex) 37 ∧ HalfG (otherLane k) ps ys i j ∧ Chg (So.Row g) w wr)
    case atStart => exact ⟨f, f + 1, ps, rfl, by go_num, rfl, hp0.out.below hb1.out, hst.out, Chg.of_below hb1.out⟩
    case round =>
      clear hst hw0
      obtain ⟨i, j, ys, rfl, rfl, hgg, hpr, hh, hch⟩ := hrel
      have hcr := (World.cell?_of_block (a := ⟨kb, 0, none⟩) (hch.block kb hkl hbg')).trans hk
      have hlen := hh.len
      have hij := hh.lt
      have hjl := hh.le
      by_cases hlt : j < ps.length
      · have hj' : j < ys.length := by omega
        have hyj := hh.at_ hlt hj'
        obtain ⟨a1, n1, c1, e1⟩ := hshp.out _ (List.getElem_mem hlt)
        have hcell : ∀ t, t < 5 → wr.cell? ⟨g, j * 5 + t, none⟩ = (encM ps[j])[t]? := fun t ht => by rw [hpr.cell, flat_get encM_len ys ex j t hj' ht, hyj]
        have hat : At5 wr g (j * 5) (.slice a1 n1 c1) ps[j].2 := ⟨by rw [← e1]; exact hcell 0 (by omega), hcell 1 (by omega), hcell 2 (by omega), hcell 3 (by omega), hcell 4 (by omega), hpr.lt⟩
        have hput := put5_pts (i := i) hpr (by omega)
        have hsk := hid (fun (he : otherLane k ps[j] = true) => hh.skip hlt he)
        have hkp := hid (fun (he : otherLane k ps[j] = false) => hh.keep hlt he)
        have hpj : ps[j] = (.slice a1 n1 c1, ps[j].2) := by rw [← e1]
        rw [hpj] at hsk hkp
        unfold otherLane at hsk hkp
        generalize ps[j].2 = m at hat hsk hkp
        clear hcell hyj hpj e1
        have hkl' : kb < wr.heap.size := Nat.lt_of_lt_of_le hkl hch.size
        have hbA := (Below.refl wr.heap.size wr).alloc (Nat.le_refl _) (.cells #[.slice a1 n1 c1, .int .i64 m.lane, .int .i64 m.stamp, .int .i64 m.late, .int .i64 m.seq] 37)
        have hcl := hid (fun (w : World) h1 h2 => of1_c (w := w) (kb := kb) (k := k) h1 h2 a1 n1 c1 m)
        have hA5 := hid (pts.newA wr #[.slice a1 n1 c1, .int .i64 m.lane, .int .i64 m.stamp, .int .i64 m.late, .int .i64 m.seq] 37)
        have hkA := (hbA.cell (p := ⟨kb, 0, none⟩) hkl').trans hcr
        have hkAl : kb < (wr.alloc (.cells #[.slice a1 n1 c1, .int .i64 m.lane, .int .i64 m.stamp, .int .i64 m.late, .int .i64 m.seq] 37)).heap.size := by simp; omega
        obtain ⟨x0, x1, x2, x3, x4, hxl⟩ := hat
        replace hbA := hid hbA
        replace hkA := hid hkA
        replace hkAl := hid hkAl
        replace hh := hid hh
        replace hpr := hid hpr
        replace hch := hid hch
        replace hput := hid hput
        replace hlen := hid hlen
        clear hput
        have hpr2 := hid (fun (w' : World) (hb : Below wr.heap.size wr w') => put5_pts (w := w') (i := i) (hpr.out.below hb) (by have := hlen.out; omega) (.slice a1 n1 c1, m))
        have hch2 := hid (fun (w' : World) (hb : Below wr.heap.size wr w') => put5_chg (g := g) (o := i * 5) (p := (.slice a1 n1 c1, m)) (hch.out.below hb))
        have hig : (i : Int) < ps.length := by omega
        by_cases he : m.lane = k
        · have hq : (m.lane != k) = false := by simpa using he
          have hkp := hid (hkp.out hq)
          clear hsk
          replace he := hid he
          go_wp2_with (first | (go_at_call 64; (with_reducible refine (hcl.out _ hkA.out hkAl.out).mono ?_); rw [hq]; rintro e w2 ⟨rfl, hb2⟩; have hA2 := hA5.out.below hb2; have y0 := hA2.cell 0; have y1 := hA2.cell 1; have y2 := hA2.cell 2; have y3 := hA2.cell 3; have y4 := hA2.cell 4; simp only [List.getElem?_cons_zero, List.getElem?_cons_succ] at y0 y1 y2 y3 y4; have hb3 := Below.next hbA.out hb2 (by simp); have fz := fun o => (hpr.out.below hb3).frozen o; obtain ⟨z0, z1, z2, z3, z4, zl⟩ := at5_pts (i := i) (hpr.out.below hb3) (by have := hlen.out; omega); have hgl2 : g < w2.heap.size := Nat.lt_of_lt_of_le hxl hb3.size; replace hpr2 := hid (hpr2.out _ hb3); replace hch2 := hid (hch2.out _ hb3); clear hA2; clear hb2; clear hb3))
          go_roundg (ps.length - (j + 1))
          case rel => exact ⟨i + 1, j + 1, ys.set i (.slice a1 n1 c1, m), by go_num, by go_num, rfl, hpr2.out, hkp.out, hch2.out⟩
          case measure => omega
        · have hq : (m.lane != k) = true := by simpa using he
          have hsk := hid (hsk.out hq)
          clear hkp
          replace he := hid he
          go_wp2_with (first | (go_at_call 64; (with_reducible refine (hcl.out _ hkA.out hkAl.out).mono ?_); rw [hq]; rintro e w2 ⟨rfl, hb2⟩; have hb3 := hid (Below.next hbA.out hb2 (by simp)); clear hb2))
          go_roundg (ps.length - (j + 1))
          case rel => exact ⟨i, j + 1, ys, rfl, by go_num, rfl, hpr.out.below hb3.out, hsk.out, hch.out.below hb3.out⟩
          case measure => omega
      · obtain rfl : j = ps.length := by omega
        have hyl : ys.length = ps.length := hlen
        have hfy : (flat encM ys).length = ps.length * 5 := by rw [flat_length encM_len, hyl]
        have hcl : ∀ ty, (Builtin.clear_ #[41] ty #[.slice (some ⟨g, i * 5, none⟩) (ps.length - i) (cap - i)]).run Try.prog wr = .ok (.tuple #[]) (wr.setRow g ((flat encM ys ++ ex).take (i * 5) ++ zeros5 (ps.length - i) ++ (flat encM ys ++ ex).drop (i * 5 + (zeros5 (ps.length - i)).length)).toArray) :=
          fun ty => run_clear_row (P := Try.prog) (t := 41) (ty := ty) (n := ps.length - i) (c := cap - i) Try.underlying41 zeroMsg hpr (o := i * 5) (by omega) rfl (zeros5_one _) (by rw [zeros5_len, List.length_append, hfy, Nat.sub_mul]; omega)
        have hfin : DelPost w base (.slice (some ⟨g, 0, none⟩) ps.length cap) ps k (.returned (.slice (some ⟨g, 0, none⟩) i cap)) (wr.setRow g ((flat encM ys ++ ex).take (i * 5) ++ zeros5 (ps.length - i) ++ (flat encM ys ++ ex).drop (i * 5 + (zeros5 (ps.length - i)).length)).toArray) := by
          have hlo := hh.lo
          rw [List.take_length] at hlo
          have hbl : (ps.filter (fun p => !otherLane k p)).length = i := by rw [← hlo]; simp; omega
          have htk : (flat encM ys ++ ex).take (i * 5) = flat encM (ps.filter (fun p => !otherLane k p)) := by
            rw [List.take_append_of_le_length (by rw [hfy]; exact Nat.mul_le_mul_right 5 (by omega)), ← hlo]
            have e2 : ys = ys.take i ++ ys.drop i := (List.take_append_drop _ _).symm
            conv => lhs; rw [e2, flat_append]
            have hl5 : (flat encM (ys.take i)).length = i * 5 := by rw [flat_length encM_len]; congr 1; simp; omega
            rw [← hl5, List.take_left']; rfl
          refine ⟨_, _, rfl, rfl, ?_, (hch.setRow (.inl rfl) _).mono (fun c h => by have h : c = g := h; subst h; rfl), fun c h => h⟩
          rw [hbl]
          have hz5 := zeros5_len (ps.length - i)
          have hmul : (ps.length - i) * 5 = ps.length * 5 - i * 5 := Nat.sub_mul _ _ _
          have hi5 : i * 5 ≤ ps.length * 5 := Nat.mul_le_mul_right 5 (by omega)
          have hex2 := hex.out
          have hmul2 : (cap - ps.length) * 5 = cap * 5 - ps.length * 5 := Nat.sub_mul _ _ _
          have hcap5 : ps.length * 5 ≤ cap * 5 := Nat.mul_le_mul_right 5 hnc
          refine ⟨by rw [flat_length encM_len, hbl], .inr ⟨g, cap, _, rfl, hbg, hpr.setRow _, by omega, by unfold maxLen; exact hcm, ?_, ?_⟩⟩
          · simp only [List.size_toArray, List.length_append, List.length_take, List.length_drop, hfy, hz5]
            omega
          · rw [← htk]
            simp only []
            rw [List.append_assoc, List.take_left']
            rw [List.length_take, List.length_append, hfy]; omega
        generalize wr.setRow g ((flat encM ys ++ ex).take (i * 5) ++ zeros5 (ps.length - i) ++ (flat encM ys ++ ex).drop (i * 5 + (zeros5 (ps.length - i)).length)).toArray = w2 at hcl hfin
        replace hfin := hid hfin
        replace hh := hid hh
        replace hpr := hid hpr
        replace hlen := hid hlen
        replace hyl := hid hyl
        replace hfy := hid hfy
        have i1 : (i : Int) ≤ (ps.length : Int) := by omega
        go_wp2_with (at_builtin; refine wpList_clear_run rfl (.tmp 38) 41 rfl rfl (hcl _) ?_)
        go_ret
        exact hfin.out
section
variable {w w' : World} {M : Nat → Prop} {lb : Nat} {ln pl : Int} {ms : List Msg}
theorem szA (w : World) (o : Obj) : (w.alloc o).heap.size = w.heap.size + 1 := by simp
def ofM (k : Int) (ms : List Msg) : List Msg := ms.filter (fun m => m.lane == k)
theorem ofM_sort (k : Int) (ms : List Msg) : ofM k (sortM ms) = ofM k ms := sortL_row ms k
theorem other_filter (k : Int) (qs : List (Value × Msg)) : (qs.filter (fun p => !otherLane k p)).map Prod.snd = ofM k (qs.map Prod.snd) := by
  unfold ofM
  rw [List.filter_map]
  congr 1
  refine List.filter_congr (fun p _ => ?_)
  unfold otherLane
  simp only [Function.comp]
  cases h : (p.2.lane == k) <;> simp [bne, h]
def ResR (w : World) (ms : List Msg) (e : Ending) (w' : World) : Prop := ∃ v, e = .returned v ∧ MsgsR (fun b => w.heap.size ≤ b) w' v ms ∧ Below w.heap.size w w'
theorem all_r (h : LanesM w M lb ln pl ms) : Calls Try.prog 35 #[.pointer (some ⟨lb, 0, none⟩)] w (ResR w (sortM ms)) :=
  (all_c h).mono fun e w' ⟨v', qs, he, hq, ho, hw, hb⟩ => ⟨v', he, ⟨qs, hq, (MsgsAt.of_own ho hw).mono (fun b h _ => h) (fun b h _ => h.1)⟩, hb⟩
set_option maxHeartbeats 1000000 in
theorem of_c (h : LanesM w M lb ln pl ms) (k : Int) : Calls Try.prog 51 #[.pointer (some ⟨lb, 0, none⟩), .int .i64 k] w (ResR w (ofM k ms)) := by
  have hbA := (Below.refl w.heap.size w).alloc (Nat.le_refl _) (.cells #[.int .i64 k] 3)
  have hkA := pts.newA w #[.int .i64 k] 3
  have hall := all_c (h.below hbA)
  have hfin : Hid (∀ (w1 w2 : World) v1 qs v2 qs', Below (w.heap.size + 1) (w.alloc (.cells #[.int .i64 k] 3)) w1 → qs.map Prod.snd = sortM ms → w1.ownsRow (w.heap.size + 1) 37 5 v1 qs.length (flat encM qs) → WordsIn (fun b => w.heap.size + 1 ≤ b ∧ v1.ownBlock ≠ some b) w1 qs → qs' = qs.filter (fun p => !otherLane k p) → w2.ownsRow (w.heap.size + 1) 37 5 v2 qs'.length (flat encM qs') → Chg (fun c => v1.ownBlock = some c) w1 w2 → ResR w (ofM k ms) (.returned v2) w2) := hid fun w1 w2 v1 qs v2 qs' hb hq ho hw hqs ho2 hc => by
    have hB1 : Below w.heap.size w w1 := Below.next hbA (by simpa using hb) (by simp)
    refine ⟨v2, rfl, ⟨qs', by rw [hqs, other_filter, hq, ofM_sort], ?_⟩, hB1.trans (hc.toBelow hB1.size (fun i hi => by have := own_block_ge ho i hi; omega))⟩
    have hw2 : WordsIn (fun b => w.heap.size + 1 ≤ b ∧ v1.ownBlock ≠ some b) w2 qs' := by
      subst hqs
      exact (hw.sub (fun p hp => (List.mem_filter.1 hp).1)).kept hc.size (fun b hb hlt => hc.block b hlt hb.2)
    exact (MsgsAt.of_own ho2 hw2).mono (fun b h _ => by omega) (fun b h _ => by omega)
  replace hall := hid hall
  replace h := hid h
  have hbA := hid hbA
  replace hkA := hid hkA
  go_enter Try.func51, Try.ntmps51
  go_wp2_with (first | (go_at_call 35; (with_reducible refine (hall.out).mono ?_); rintro e w1 ⟨v1, qs, rfl, hq, ho, hw, hb⟩; have hkw := hkA.out.below hb; have hk0 := hkw.cell 0; have hkl := hkw.lt; simp only [List.getElem?_cons_zero] at hk0; simp only [szA] at ho hw hb; have hd := hid (deleteFunc_c ho hw hk0 hkl (fun e => by have := own_block_ge ho _ e; omega)); obtain ⟨a1, c1, rfl⟩ := own_shape ho; unfold FnOf at hd; replace hq := hid hq; replace ho := hid ho; replace hw := hid hw; replace hb := hid hb; clear hkw hk0) | (go_at_call 63; (with_reducible refine (hd.out).mono ?_); rintro e w2 ⟨v2, qs', rfl, hqs, ho2, hc2, -⟩; obtain ⟨a2, c2, rfl⟩ := own_shape ho2; have hf := hid (hfin.out _ _ _ _ _ _ hb.out hq.out ho.out hw.out hqs ho2 hc2); clear hqs ho2 hc2))
  go_ret
  exact hf.out
end
end Go.Proofs.Ytggfallodkbgcaa.La

namespace Go.Proofs.Ytggfallodkbgcaa.La
set_option linter.unusedVariables false
set_option linter.unusedSimpArgs false
open Go.RowKit Go.Proofs.Ytggfallodkbgcaa.K Go.Proofs.Ytggfallodkbgcaa.Sp Go.Proofs.Ytggfallodkbgcaa.Lb Go.Proofs.Ytggfallodkbgcaa.So
section
variable {w w' : World} {M : Nat → Prop} {lb : Nat} {ln pl : Int} {ms : List Msg}
def roomT (ln pl : Int) (ms : List Msg) (k : Int) : Int := if isT ln k then pl - (ofM k ms).length else 0
def RoomPost (w : World) (r : Int) (e : Ending) (w' : World) : Prop := e = .returned (.int .i64 r) ∧ Below w.heap.size w w'
theorem room_nil (w : World) (k : Int) : Calls Try.prog 28 #[.pointer none, .int .i64 k] w fun e w' => e = .returned (.int .i64 0) ∧ w = w' := by
  go_enter Try.func28, Try.ntmps28
  go_wp2_with (first | (go_at_call 50; (with_reducible refine (is_nil _ _).mono ?_); rintro e w1 ⟨rfl, rfl⟩))
  go_ret
  exact ⟨rfl, rfl⟩
set_option maxHeartbeats 1000000 in
theorem room_c (h : LanesM w M lb ln pl ms) (k : Int) : Calls Try.prog 28 #[.pointer (some ⟨lb, 0, none⟩), .int .i64 k] w (RoomPost w (roomT ln pl ms k)) := by
  have h0 := h
  obtain ⟨lv, ps, hps, hl⟩ := h
  obtain ⟨c0, c1, c2, f2, hlt⟩ := hl.cells
  have hir : Hid (roomT ln pl ms k = if isT ln k then pl - (ofM k ms).length else 0) := hid rfl
  have hpb := hl.inv.p
  have hfl : ((ofM k ms).length : Int) ≤ 24 := by have := h0.inv.len; have h2 := List.length_filter_le (fun m : Msg => m.lane == k) ms; unfold ofM; omega
  have hwr : IntKind.i64.wrap (pl - ((ofM k ms).length : Int)) = pl - (ofM k ms).length := IntWalk.i64_in _ (by omega)
  have his := is_c h0 k
  have hof := hid (fun (w : World) (h : LanesM w M lb ln pl ms) => of_c h k)
  have hld := hid (h0.below (w' := w.drew) (Below.refl _ _).drew)
  replace hl := hid hl
  replace hps := hid hps
  replace h0 := hid h0
  cases hi : isT ln k with
  | false =>
    rw [hi] at his hir
    replace hi := hid hi
    replace his := hid his
    go_enter Try.func28, Try.ntmps28
    go_wp2_with (first | (go_at_call 50; (with_reducible refine (his.out).mono ?_); rintro e w1 ⟨rfl, rfl⟩))
    go_ret
    exact ⟨by rw [hir.out] <;> rfl, Below.refl _ _⟩
  | true =>
    rw [hi] at his hir
    replace hi := hid hi
    replace his := hid his
    go_enter Try.func28, Try.ntmps28
    go_upto_region 3 with (first | (go_at_call 50; (with_reducible refine (his.out).mono ?_); rintro e w1 ⟨rfl, rfl⟩))
    go_region_held3 (fun W => W.cell? ⟨lb, 1, none⟩ = some (.int .i64 pl))
      (first | go_keep | ((try dsimp only); (repeat' apply And.intro) <;> go_keep))
      (first | (go_at_call 51; (with_reducible refine (hof.out w.drew hld.out).mono ?_); rintro e w2 ⟨v2, rfl, hm2, hb2⟩; obtain ⟨a2, k2, rfl⟩ := hm2.shape; replace hb2 := Below.ofDrew hb2; have y1 := (hb2.cell (p := ⟨lb, 1, none⟩) hlt).trans c1; replace hm2 := hid hm2; replace hb2 := hid hb2))
    go_wp2
    go_ret
    exact ⟨by rw [hir.out] <;> rfl, hb2.out⟩
/-- A message in hand: its words lie in new memory. -/
def HandPost (w : World) (ok : World → Nat → Prop) (m : Msg) (e : Ending) (w' : World) : Prop :=
  ∃ a c, e = .returned (.tuple #[.agg #[.slice a m.words.length c, .int .i64 m.lane, .int .i64 m.stamp, .int .i64 m.late, .int .i64 m.seq], .bool true]) ∧ IntsAt (ok w') w' (.slice a m.words.length c) m.words
end
end Go.Proofs.Ytggfallodkbgcaa.La

namespace Go.Proofs.Ytggfallodkbgcaa.La
set_option linter.unusedVariables false
set_option linter.unusedSimpArgs false
open Go.RowKit Go.Proofs.Ytggfallodkbgcaa.K Go.Proofs.Ytggfallodkbgcaa.Sp Go.Proofs.Ytggfallodkbgcaa.Lb Go.Proofs.Ytggfallodkbgcaa.So
section
variable {w w' : World} {M : Nat → Prop} {lb : Nat} {ln pl : Int} {lv : Value} {ps : List (Value × Msg)} {ms : List Msg}
theorem put_nilR (w : World) (a : Option Addr) (n c : Nat) (m : Msg) : Calls Try.prog 33 #[.pointer none, .agg #[.slice a n c, .int .i64 m.lane, .int .i64 m.stamp, .int .i64 m.late, .int .i64 m.seq]] w fun e w' => e = .returned (.int .i64 3) ∧ Below w.heap.size w w' := by
  go_enter Try.func33, Try.ntmps33
  go_wp2_with (first | (go_at_call 50; (with_reducible refine (is_nil _ _).mono ?_); rintro e w1 ⟨rfl, rfl⟩))
  go_ret
  exact ⟨rfl, (Below.refl _ _).alloc (Nat.le_refl _) _⟩
theorem put_bad (h : LanesM w M lb ln pl ms) (a : Option Addr) (n c : Nat) (m : Msg) (hi : isT ln m.lane = false) : Calls Try.prog 33 #[.pointer (some ⟨lb, 0, none⟩), .agg #[.slice a n c, .int .i64 m.lane, .int .i64 m.stamp, .int .i64 m.late, .int .i64 m.seq]] w fun e w' => e = .returned (.int .i64 3) ∧ Below w.heap.size w w' := by
  have hbA := (Below.refl w.heap.size w).alloc (Nat.le_refl _) (.cells #[.slice a n c, .int .i64 m.lane, .int .i64 m.stamp, .int .i64 m.late, .int .i64 m.seq] 37)
  have his := is_c (h.below hbA) m.lane
  rw [hi] at his
  replace hi := hid hi
  replace his := hid his
  replace h := hid h
  go_enter Try.func33, Try.ntmps33
  go_wp2_with (first | (go_at_call 50; (with_reducible refine (his.out).mono ?_); rintro e w1 ⟨rfl, rfl⟩))
  go_ret
  exact ⟨rfl, hbA⟩
theorem put_full (h : LanesM w M lb ln pl ms) (a : Option Addr) (n c : Nat) (m : Msg) (hi : isT ln m.lane = true) (hr : roomT ln pl ms m.lane = 0) : Calls Try.prog 33 #[.pointer (some ⟨lb, 0, none⟩), .agg #[.slice a n c, .int .i64 m.lane, .int .i64 m.stamp, .int .i64 m.late, .int .i64 m.seq]] w fun e w' => e = .returned (.int .i64 10) ∧ Below w.heap.size w w' := by
  have hbA := (Below.refl w.heap.size w).alloc (Nat.le_refl _) (.cells #[.slice a n c, .int .i64 m.lane, .int .i64 m.stamp, .int .i64 m.late, .int .i64 m.seq] 37)
  have his := is_c (h.below hbA) m.lane
  have hrm := room_c (h.below hbA) m.lane
  rw [hi] at his
  rw [hr] at hrm
  replace hi := hid hi
  replace hr := hid hr
  replace his := hid his
  replace hrm := hid hrm
  replace hbA := hid hbA
  replace h := hid h
  go_enter Try.func33, Try.ntmps33
  go_wp2_with (first | (go_at_call 50; (with_reducible refine (his.out).mono ?_); rintro e w1 ⟨rfl, rfl⟩) | (go_at_call 28; (with_reducible refine (hrm.out).mono ?_); rintro e w2 ⟨rfl, hb2⟩; replace hb2 := hid hb2))
  go_ret
  exact ⟨rfl, Below.next hbA.out hb2.out (by simp)⟩
theorem LanesAt.mono {M' : Nat → Prop} (h : LanesAt w M lb ln pl lv ps) (hM : ∀ b, M b → M' b) (hlt : ∀ b, M' b → b < w.heap.size) : LanesAt w M' lb ln pl lv ps :=
  ⟨h.at_, h.own, h.words.mono (fun b hb _ => ⟨hM b hb.1, hb.2⟩), hM _ h.mine, fun b e => hM b (h.mown b e), hlt, h.inv⟩
theorem grow_from {w1 : World} (hs : w.heap.size ≤ w1.heap.size) : ∀ b, grow M w1 w' b → grow M w w' b := fun b hb => by
  rcases hb with hb | hb
  · exact .inl hb
  · exact .inr ⟨Nat.le_trans hs hb.1, hb.2⟩
/-- Behind append, and the row stored. -/
theorem LanesAt.putStep {w3 w5 : World} (h : LanesAt w M lb ln pl lv ps) (hb : Below w.heap.size w w3) {q : Value × Msg} (hq : IntsAt (fun b => w.heap.size ≤ b) w3 q.1 q.2.words) {lv' : Value} (hr : w5.ownsRow 0 37 5 lv' (ps.length + 1) (flat encM ps ++ encM q)) (hg : w3.grownBy w5 lv.ownBlock) (hv : ∀ c, lv'.ownBlock = some c → (lv.ownBlock = some c ∨ c = w3.heap.size) ∧ c < w5.heap.size) (hinv : LInv ln pl (ps.map Prod.snd ++ [q.2])) :
    LanesAt (w5.setCell ⟨lb, 2, none⟩ lv') (grow M w (w5.setCell ⟨lb, 2, none⟩ lv')) lb ln pl lv' (ps ++ [q]) ∧ Chg M w (w5.setCell ⟨lb, 2, none⟩ lv') := by
  have e5 : ∀ b, b < w.heap.size → lv.ownBlock ≠ some b → w5.heap[b]? = w.heap[b]? := fun b hlt hne => (hg.block b (Nat.lt_of_lt_of_le hlt hb.size) (fun e => hne e.symm)).trans (hb.block b hlt)
  have hll := h.at_.lt
  have hp5 : pts w5 lb [.int .i64 ln, .int .i64 pl, lv] 90 := h.at_.of (e5 lb hll (fun e => h.ne lb e rfl))
  have hC0 : Chg M w w5 := ⟨hg.os.trans hb.os, hg.tape.trans hb.tape, hg.output.trans hb.output, Nat.le_trans hb.size hg.size, fun b hlt hn => e5 b hlt (fun e => hn (h.mown b e))⟩
  have hC : Chg M w (w5.setCell ⟨lb, 2, none⟩ lv') := hC0.setB h.mine
  have hsz : (w5.setCell ⟨lb, 2, none⟩ lv').heap.size = w5.heap.size := by simp
  have s1 := hb.size
  have s2 := hg.size
  have hlv : ∀ c, lv'.ownBlock = some c → c ≠ lb := fun c hc => by
    rcases (hv c hc).1 with h1 | h1
    · exact h.ne c h1
    · omega
  refine ⟨⟨by simpa using hp5.set 2 lv', ?_, ?_, .inl h.mine, fun b e => ?_, fun b hb' => ?_, by rw [List.map_append]; exact hinv⟩, hC⟩
  · have h1 : w5.ownsRow 0 37 5 lv' (ps ++ [q]).length (flat encM (ps ++ [q])) := by rw [flat_append, flat_single, List.length_append]; exact hr
    exact own_of h1 (fun b e => Below.heap_setCell _ _ _ _ (hlv b e))
  · refine WordsIn.snoc ?_ ?_
    · refine (h.words.kept (w' := w5.setCell ⟨lb, 2, none⟩ lv') hC.size (fun b hb' hlt => ?_)).mono' (fun b hb' hlt => ⟨.inl hb'.1, hb'.2.1, fun e => ?_⟩) h.words
      · rw [Below.heap_setCell _ _ _ _ hb'.2.1]
        exact e5 b hlt hb'.2.2
      · rcases (hv b e).1 with h1 | h1
        · exact hb'.2.2 h1
        · omega
    · have h5 : IntsAt (fun b => w.heap.size ≤ b ∧ b < w3.heap.size) w3 q.1 q.2.words := hq.mono (fun b h1 h2 => ⟨h1, h2⟩)
      refine (h5.kept (w' := w5.setCell ⟨lb, 2, none⟩ lv') (by rw [hsz]; exact hg.size) (fun b h1 h2 => ?_)).mono (fun b h1 h2 => ⟨.inr ⟨h1.1, h2⟩, by omega, fun e => ?_⟩)
      · rw [Below.heap_setCell _ _ _ _ (fun e => by have e : b = lb := e; omega)]
        exact hg.block b h2 (fun e => by have := h.lt b (h.mown b e.symm); omega)
      · rcases (hv b e).1 with h3 | h3
        · have := h.lt b (h.mown b h3); omega
        · omega
  · rcases (hv b e).1 with h1 | h1
    · exact .inl (h.mown b h1)
    · exact .inr ⟨by omega, by rw [hsz]; exact (hv b e).2⟩
  · rcases hb' with hb' | hb'
    · exact Nat.lt_of_lt_of_le (h.lt b hb') hC.size
    · exact hb'.2
set_option maxHeartbeats 2000000 in
set_option maxRecDepth 100000 in
/-- It is put in. -/
theorem put_ok (h : LanesM w M lb ln pl ms) {okp : Nat → Prop} {a : Option Addr} {c : Nat} {m : Msg} (hw : IntsAt okp w (.slice a m.words.length c) m.words) (hsh : m.words.length ≤ 17592186044416) (hi : isT ln m.lane = true) (hr : roomT ln pl ms m.lane ≠ 0) :
    Calls Try.prog 33 #[.pointer (some ⟨lb, 0, none⟩), .agg #[.slice a m.words.length c, .int .i64 m.lane, .int .i64 m.stamp, .int .i64 m.late, .int .i64 m.seq]] w fun e w' => e = .returned (.int .i64 0) ∧ LanesM w' (grow M w w') lb ln pl (ms ++ [m]) ∧ Chg M w w' := by
  have hbA := (Below.refl w.heap.size w).alloc (Nat.le_refl _) (.cells #[.slice a m.words.length c, .int .i64 m.lane, .int .i64 m.stamp, .int .i64 m.late, .int .i64 m.seq] 37)
  have hqA := pts.newA w #[.slice a m.words.length c, .int .i64 m.lane, .int .i64 m.stamp, .int .i64 m.late, .int .i64 m.seq] 37
  have his := is_c (h.below hbA) m.lane
  have hrm := room_c (h.below hbA) m.lane
  have hinv : LInv ln pl (ms ++ [m]) := h.inv.add (by unfold isT at hi; simpa using hi) (by
    unfold roomT at hr
    rw [hi] at hr
    have := h.inv.few m.lane
    simp only [if_true] at hr
    unfold ofM at hr
    omega) hsh
  rw [hi] at his
  have hr0 : (roomT ln pl ms m.lane == 0) = false := by simpa using hr
  generalize roomT ln pl ms m.lane = r at hrm hr0 hr
  replace hr := hid hr
  replace hi := hid hi
  replace his := hid his
  replace hrm := hid hrm
  replace hbA := hid hbA
  replace hqA := hid hqA
  replace hinv := hid hinv
  replace h := hid h
  replace hw := hid hw
  go_enter Try.func33, Try.ntmps33
  go_upto_region 5 with (first | (go_at_call 50; (with_reducible refine (his.out).mono ?_); rintro e w1 ⟨rfl, rfl⟩) | (go_at_call 28; (with_reducible refine (hrm.out).mono ?_); rintro e w2 ⟨rfl, hb2⟩; replace hb2 := hid hb2))
  have hBW := Below.next hbA.out hb2.out (by simp)
  have hqW := hqA.out.below hb2.out
  have hiW := hw.out.below hBW
  obtain ⟨lv, ps, hps, hl⟩ := h.out.below hBW
  have hbW := hid hBW
  clear hBW hqA hbA hb2 hrm his
  generalize hB1 : w.heap.size = qb at hqW hbW ⊢
  replace hB1 := hid hB1
  obtain ⟨al, cl, rfl⟩ := own_shape hl.own
  obtain ⟨c0, c1, c2, f2, hlt⟩ := hl.cells
  have m0 := hqW.cell 0
  have m1 := hqW.cell 1
  have m2 := hqW.cell 2
  have m3 := hqW.cell 3
  have m4 := hqW.cell 4
  have hql := hqW.lt
  simp only [List.getElem?_cons_zero, List.getElem?_cons_succ] at m0 m1 m2 m3 m4
  have hld : LanesAt w2.drew M lb ln pl (.slice al ps.length cl) ps := hl.below (Below.refl _ _).drew
  have hcl : Calls Try.prog 53 #[.agg #[.slice a m.words.length c, .int .i64 m.lane, .int .i64 m.stamp, .int .i64 m.late, .int .i64 m.seq]] w2.drew fun e w' => ∃ v', e = .returned (.agg #[v', .int .i64 m.lane, .int .i64 m.stamp, .int .i64 m.late, .int .i64 m.seq]) ∧ IntsAt (fun b => w2.drew.heap.size ≤ b) w' v' m.words ∧ Below w2.drew.heap.size w2.drew w' := mclone_c (p := (.slice a m.words.length c, m)) (hiW.below (Below.refl _ _).drew) hsh
  have hpl := hid hl.len
  subst hps
  replace hl := hid hl
  replace hld := hid hld
  replace hcl := hid hcl
  clear hqW hiW
  go_region_law (first | (refine step_push rfl (.tmp 21) (.tmp 24) 41 rfl elMsg (v := .slice al ps.length cl) (by simp [Act.eval, Act.put]) (hl3.out.own) (Nat.zero_le _) (by simp [Act.eval, Act.put]) (g := w3.heap.size) (m := 1) (c := 1) (news := encM (.slice av m.words.length cv, m)) rfl (heap_at _ _ _ rfl) (by simp [encM, Value.oneCell']) (by omega) (by have := hpl.out; unfold maxLen; omega) (by have := hpl.out; omega) ?_; intro g' cap' w5 hown5 hg5 hor5 hlt5; have hS := hid (LanesAt.putStep (q := (.slice av m.words.length cv, m)) hld.out (hb3.out.alloc hz3.out (.cells #[.slice av m.words.length cv, .int .i64 m.lane, .int .i64 m.stamp, .int .i64 m.late, .int .i64 m.seq] 37)) (hi3.out.below ((Below.refl _ _).alloc (Nat.le_refl _) _)) hown5 hg5 (fun c hc => by simp only [Value.ownBlock, Option.some.injEq] at hc; subst hc; exact ⟨hor5, hlt5⟩) hinv.out); have hp5 := pts.of hl3.out.at_ (hg5.block lb hl3.out.at_.lt (fun e => hl3.out.ne lb e.symm rfl)); have s2 := hp5.cell 2; have sf := hp5.frozen 2; have sl := hp5.lt; simp only [List.getElem?_cons_zero, List.getElem?_cons_succ] at s2; clear hown5 hg5 hp5) | (go_simp; go_at_call 53; (with_reducible refine hcl.out.mono ?_); rintro e w3 ⟨v', rfl, hi3, hb3⟩; obtain ⟨av, cv, rfl⟩ := hi3.shape; have hl3 := hid (((hld.out.below hb3).below ((Below.refl _ _).alloc (Nat.le_refl _) (.cells #[.slice av m.words.length cv, .int .i64 m.lane, .int .i64 m.stamp, .int .i64 m.late, .int .i64 m.seq] 37)))); have hl3' := hid (hld.out.below hb3); obtain ⟨-, -, c2', -, cl'⟩ := hl3'.out.cells; have hz3 := hid hb3.size; have hi3 := hid hi3; have hb3 := hid hb3))
  all_goals go_wp2
  all_goals go_ret
  all_goals have hbs : w.heap.size ≤ w2.drew.heap.size := by have := hbW.out.size; rw [hB1.out] at *; exact this
  all_goals have hc1 : Chg M w w2.drew := (Chg.of_below (M := M) (by have := hbW.out; rw [← hB1.out] at this; exact this)).drew
  all_goals exact ⟨rfl, ⟨_, _, by rw [List.map_append]; rfl, hS.out.1.mono (grow_from hbs) (fun b hb => by rcases hb with hb | hb; exact hS.out.1.lt b (.inl hb); exact hb.2)⟩, hc1.trans hS.out.2 (fun i hi => .inl hi)⟩
end
end Go.Proofs.Ytggfallodkbgcaa.La
