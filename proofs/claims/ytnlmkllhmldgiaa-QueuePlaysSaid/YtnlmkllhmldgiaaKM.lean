/- DERIVED. Helper words: messages in memory: a slice of messages that reads as a list. No statement is proved here. -/
import Derived.Test.YtnlmkllhmldgiaaK1
namespace Go.Proofs.Ytnlmkllhmldgiaa.K
set_option linter.unusedVariables false
set_option linter.unusedSimpArgs false
open Go.RowKit

/-- a message: its words, its lane, its stamp, its last tick, its number. -/
structure Msg where
  words : List Int
  lane : Int
  stamp : Int
  late : Int
  seq : Int
/-- A message's five cells; the words' slice stands ahead. -/
def encM (p : Value × Msg) : List Value := [p.1, .int .i64 p.2.lane, .int .i64 p.2.stamp, .int .i64 p.2.late, .int .i64 p.2.seq]
theorem encM_len (p : Value × Msg) : (encM p).length = 5 := rfl
/-- A message as a value. -/
def aggM (p : Value × Msg) : Value := .agg #[p.1, .int .i64 p.2.lane, .int .i64 p.2.stamp, .int .i64 p.2.late, .int .i64 p.2.seq]
/-- The words of all stand in blocks of kind ok. -/
def WordsIn (ok : Nat → Prop) (w : World) (ps : List (Value × Msg)) : Prop := ∀ p ∈ ps, IntsAt ok w p.1 p.2.words
theorem WordsIn.kept {ok : Nat → Prop} {w w' : World} {ps : List (Value × Msg)} (h : WordsIn ok w ps) (hs : w.heap.size ≤ w'.heap.size) (hk : ∀ b, ok b → b < w.heap.size → w'.heap[b]? = w.heap[b]?) : WordsIn ok w' ps := fun p hp => (h p hp).kept hs hk
theorem WordsIn.mono {ok ok' : Nat → Prop} {w : World} {ps : List (Value × Msg)} (h : WordsIn ok w ps) (hk : ∀ b, ok b → b < w.heap.size → ok' b) : WordsIn ok' w ps := fun p hp => (h p hp).mono hk
/-- The blocks of kind ok that stood at w are of kind ok'. -/
theorem WordsIn.mono' {ok ok' : Nat → Prop} {w w' : World} {ps : List (Value × Msg)} (h : WordsIn ok w' ps) (hk : ∀ b, ok b → b < w.heap.size → ok' b) (h0 : WordsIn ok w ps) : WordsIn ok' w' ps := by
  intro p hp
  obtain ⟨ao, cap, hv, hl, hx⟩ := h p hp
  obtain ⟨ao0, cap0, hv0, _, hx0⟩ := h0 p hp
  rw [hv] at hv0
  simp only [Value.slice.injEq] at hv0
  obtain ⟨rfl, -, rfl⟩ := hv0
  refine ⟨ao, cap, hv, hl, ?_⟩
  rcases hx with hx | ⟨g, o, h1, h2, h3, h4⟩
  · exact .inl hx
  · rcases hx0 with hx0 | ⟨g0, o0, h10, h20, h30, _⟩
    · exact .inl hx0
    · rw [h1] at h10
      simp only [Option.some.injEq, Addr.mk.injEq] at h10
      obtain ⟨rfl, rfl, _⟩ := h10
      exact .inr ⟨g, o, h1, hk g h2 h30, h3, h4⟩
theorem WordsIn.below {ok : Nat → Prop} {w w' : World} {ps : List (Value × Msg)} (h : WordsIn ok w ps) (hb : Below w.heap.size w w') : WordsIn ok w' ps := fun p hp => (h p hp).below hb
theorem WordsIn.nil (ok : Nat → Prop) (w : World) : WordsIn ok w [] := fun p hp => by cases hp
theorem WordsIn.snoc {ok : Nat → Prop} {w : World} {ps : List (Value × Msg)} {p : Value × Msg} (h : WordsIn ok w ps) (hp : IntsAt ok w p.1 p.2.words) : WordsIn ok w (ps ++ [p]) := fun q hq => by
  rcases List.mem_append.1 hq with h1 | h1
  · exact h q h1
  · simp at h1; subst h1; exact hp
theorem WordsIn.sub {ok : Nat → Prop} {w : World} {ps qs : List (Value × Msg)} (h : WordsIn ok w ps) (hs : ∀ p ∈ qs, p ∈ ps) : WordsIn ok w qs := fun p hp => h p (hs p hp)
theorem WordsIn.one {ok : Nat → Prop} {w : World} {ps : List (Value × Msg)} (h : WordsIn ok w ps) : ∀ u ∈ flat encM ps, u.oneCell' = true := by
  intro u hu
  obtain ⟨p, hp, hu⟩ := List.mem_flatMap.1 hu
  obtain ⟨ao, cap, e⟩ := (h p hp).shape
  simp only [encM, List.mem_cons, List.not_mem_nil, or_false] at hu
  rcases hu with rfl | rfl | rfl | rfl | rfl
  · rw [e]; rfl
  all_goals rfl

/-- A slice of messages: its row in a block of kind ok, the words in blocks of kind okw. -/
def MsgsAt (ok okw : Nat → Prop) (w : World) (v : Value) (ps : List (Value × Msg)) : Prop :=
  ∃ ao cap, v = .slice ao ps.length cap ∧ (ps.length ≤ cap ∧ cap ≤ maxLen ∧ (ao = none → cap = 0)) ∧ WordsIn okw w ps ∧
    (ps = [] ∨ ∃ g o, ao = some ⟨g, o, none⟩ ∧ ok g ∧ g < w.heap.size ∧ ∀ i (h : i < ps.length) j, j < 5 → w.cell? ⟨g, o + (i * 5 + j), none⟩ = (encM ps[i])[j]?)
theorem MsgsAt.words {ok okw : Nat → Prop} {w : World} {v : Value} {ps : List (Value × Msg)} (h : MsgsAt ok okw w v ps) : WordsIn okw w ps := let ⟨_, _, _, _, h, _⟩ := h; h
theorem MsgsAt.kept {ok okw : Nat → Prop} {w w' : World} {v : Value} {ps : List (Value × Msg)} (h : MsgsAt ok okw w v ps) (hs : w.heap.size ≤ w'.heap.size) (hk : ∀ b, ok b ∨ okw b → b < w.heap.size → w'.heap[b]? = w.heap[b]?) : MsgsAt ok okw w' v ps := by
  obtain ⟨ao, cap, hv, hl, hw, hx⟩ := h
  refine ⟨ao, cap, hv, hl, hw.kept hs (fun b h => hk b (.inr h)), ?_⟩
  rcases hx with hx | ⟨g, o, h1, h2, h3, h4⟩
  · exact .inl hx
  · exact .inr ⟨g, o, h1, h2, by omega, fun i hi j hj => (World.cell?_of_block (hk g (.inl h2) h3)).trans (h4 i hi j hj)⟩
theorem MsgsAt.below {ok okw : Nat → Prop} {w w' : World} {v : Value} {ps : List (Value × Msg)} (h : MsgsAt ok okw w v ps) (hb : Below w.heap.size w w') : MsgsAt ok okw w' v ps := h.kept hb.size (fun b _ hb' => hb.block b hb')
theorem MsgsAt.mono {ok ok' okw okw' : Nat → Prop} {w : World} {v : Value} {ps : List (Value × Msg)} (h : MsgsAt ok okw w v ps) (hk : ∀ b, ok b → b < w.heap.size → ok' b) (hkw : ∀ b, okw b → b < w.heap.size → okw' b) : MsgsAt ok' okw' w v ps := by
  obtain ⟨ao, cap, hv, hl, hw, hx⟩ := h
  refine ⟨ao, cap, hv, hl, hw.mono hkw, ?_⟩
  rcases hx with hx | ⟨g, o, h1, h2, h3, h4⟩
  · exact .inl hx
  · exact .inr ⟨g, o, h1, hk g h2 h3, h3, h4⟩
theorem MsgsAt.nil (ok okw : Nat → Prop) (w : World) : MsgsAt ok okw w (.slice none 0 0) [] := ⟨none, 0, rfl, ⟨by simp, by simp, fun _ => rfl⟩, WordsIn.nil _ _, .inl rfl⟩
theorem MsgsAt.shape {ok okw : Nat → Prop} {w : World} {v : Value} {ps : List (Value × Msg)} (h : MsgsAt ok okw w v ps) : ∃ ao cap, v = .slice ao ps.length cap := let ⟨ao, cap, hv, _⟩ := h; ⟨ao, cap, hv⟩
theorem len_of_flat {ps : List (Value × Msg)} {n : Nat} (h : (flat encM ps).length = n * 5) : n = ps.length := by rw [flat_length encM_len] at h; omega
/-- What a call's own row of messages reads as. -/
theorem MsgsAt.of_own {okw : Nat → Prop} {base : Nat} {w : World} {T : TypeId} {v : Value} {n : Nat} {ps : List (Value × Msg)} (h : w.ownsRow base T 5 v n (flat encM ps)) (hw : WordsIn okw w ps) : MsgsAt (fun b => base ≤ b) okw w v ps := by
  obtain rfl := len_of_flat h.1
  rcases h.2 with ⟨rfl, hn⟩ | ⟨g, cap, cur, rfl, hb, hh, hn, hc, hcs, ht⟩
  · obtain rfl : ps = [] := List.eq_nil_of_length_eq_zero hn
    exact MsgsAt.nil _ _ _
  · refine ⟨_, _, rfl, ⟨hn, hc, fun h => by cases h⟩, hw, .inr ⟨g, 0, rfl, hb, (Array.getElem?_eq_some_iff.1 hh).1, fun i hi j hj => ?_⟩⟩
    rw [Nat.zero_add, h.cellAt (i * 5 + j) (by omega)]
    have := flat_get encM_len ps [] i j hi hj
    rwa [List.append_nil] at this
/-- Reading message i. -/
theorem MsgsAt.get {ok okw : Nat → Prop} {w : World} {ao : Option Addr} {n cap : Nat} {ps : List (Value × Msg)} (h : MsgsAt ok okw w (.slice ao n cap) ps) : n = ps.length ∧ n ≤ cap ∧ cap ≤ 9223372036854775807 ∧ ∀ i (hi : i < ps.length), ∃ g o, ao = some ⟨g, o, none⟩ ∧ ok g ∧ g < w.heap.size ∧
    w.cell? ⟨g, o + i * 5, none⟩ = some ps[i].1 ∧ w.cell? ⟨g, o + i * 5 + 1, none⟩ = some (.int .i64 ps[i].2.lane) ∧ w.cell? ⟨g, o + i * 5 + 2, none⟩ = some (.int .i64 ps[i].2.stamp) ∧ w.cell? ⟨g, o + i * 5 + 3, none⟩ = some (.int .i64 ps[i].2.late) ∧ w.cell? ⟨g, o + i * 5 + 4, none⟩ = some (.int .i64 ps[i].2.seq) ∧
    IntsAt okw w ps[i].1 ps[i].2.words := by
  obtain ⟨ao', cap', hv, ⟨h1, h2, _⟩, hw, hx⟩ := h
  simp only [Value.slice.injEq] at hv
  obtain ⟨rfl, rfl, rfl⟩ := hv
  refine ⟨rfl, h1, by simpa [maxLen] using h2, fun i hi => ?_⟩
  rcases hx with rfl | ⟨g, o, h3, h4, h5, h6⟩
  · simp at hi
  · exact ⟨g, o, h3, h4, h5, h6 i hi 0 (by omega), h6 i hi 1 (by omega), h6 i hi 2 (by omega), h6 i hi 3 (by omega), h6 i hi 4 (by omega), hw _ (List.getElem_mem hi)⟩
/-- The messages of a slice as a source. -/
theorem MsgsAt.src {P : Program} {tx e' : TypeId} (hk : P.underlying tx = some (.slice e')) {ok okw : Nat → Prop} {w : World} {ao : Option Addr} {n cap : Nat} {ps : List (Value × Msg)} (h : MsgsAt ok okw w (.slice ao n cap) ps) : Src P 5 tx (.slice ao n cap) n (flat encM ps) w := by
  obtain ⟨ao', cap', hv, ⟨h1, h2, h3⟩, hw, hx⟩ := h
  simp only [Value.slice.injEq] at hv
  obtain ⟨rfl, rfl, rfl⟩ := hv
  have some_case : ∀ a, ao = some a → (∀ j u, (flat encM ps)[j]? = some u → w.cell? (a.add j) = some u) → Src P 5 tx (.slice ao ps.length cap) ps.length (flat encM ps) w := by
    rintro a rfl hn
    exact Src.ofSlice w hk a _ _ _ (flat_length encM_len ps) hn hw.one
  rcases hx with rfl | ⟨g, o, rfl, h4, h5, h6⟩
  · cases ao with
    | none => exact Src.ofNil w hk cap
    | some a => exact some_case a rfl (fun j u hu => by simp [flat] at hu)
  · refine some_case _ rfl (fun j u hu => ?_)
    have e1 : (⟨g, o, none⟩ : Addr).add j = ⟨g, o + j, none⟩ := by unfold Addr.add; split <;> simp_all
    have hj : j < ps.length * 5 := by have := (List.getElem?_eq_some_iff.1 hu).1; rwa [flat_length encM_len] at this
    have hi : j / 5 < ps.length := by omega
    have h7 := h6 (j / 5) hi (j % 5) (by omega)
    have h8 := flat_get encM_len ps [] (j / 5) (j % 5) hi (by omega)
    have e2 : j / 5 * 5 + j % 5 = j := by omega
    rw [e2] at h7 h8
    rw [List.append_nil, hu] at h8
    rw [e1, h7, ← h8]
end Go.Proofs.Ytnlmkllhmldgiaa.K
