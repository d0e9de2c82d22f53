/- DERIVED. Words for the statement LanePlays: the first message of all, of lanes and of the reference's list; what the reference's Put answers, kept through a region that draws its order. No statement is proved here. -/
import Derived.Test.YtealopempjempaaRefLaneD
import Derived.Test.YtealopempjempaaRefMsg
import Derived.Test.YtealopempjempaaRegR
namespace Go.Proofs.Ytealopempjempaa.La
set_option linter.unusedVariables false
set_option linter.unusedSimpArgs false
open Go.RowKit Go.Proofs.Ytealopempjempaa.K Go.Proofs.Ytealopempjempaa.Sp Go.Proofs.Ytealopempjempaa.Lb Go.Proofs.Ytealopempjempaa.So Go.Proofs.Ytealopempjempaa.Rl
def zeroM : Msg := ⟨[], 0, 0, 0, 0⟩
def hdM (S : List Msg) : Msg := S.headD zeroM
/-- The first of all in hand, or nothing. -/
def HandAny (ok : Nat → Prop) (S : List Msg) (e : Ending) (w' : World) : Prop :=
  ∃ a c, e = .returned (.tuple #[.agg #[.slice a (hdM S).words.length c, .int .i64 (hdM S).lane, .int .i64 (hdM S).stamp, .int .i64 (hdM S).late, .int .i64 (hdM S).seq], .bool (!S.isEmpty)]) ∧ IntsAt ok w' (.slice a (hdM S).words.length c) (hdM S).words
section
variable {w w' : World} {M : Nat → Prop} {lb : Nat} {ln pl : Int} {ms : List Msg}
theorem take_any (h : LanesM w M lb ln pl ms) : Calls Try.prog 51 #[.pointer (some ⟨lb, 0, none⟩)] w fun e w' => HandAny (fun _ => True) (sortM ms) e w' ∧ LanesM w' (grow M w w') lb ln pl (sortM ms).tail ∧ Chg M w w' := by
  cases hs : sortM ms with
  | nil =>
    have : ms = [] := List.eq_nil_of_length_eq_zero (by have := sortL_len (key := lane1) ms; unfold sortM at hs; rw [hs] at this; exact this.symm)
    subst this
    exact (take_none h).mono fun e w' ⟨h1, h2, h3⟩ => ⟨⟨none, 0, h1, IntsAt.nil _ _⟩, h2, h3⟩
  | cons m r => exact (take_some h hs).mono fun e w' ⟨⟨a, c, h1, h2⟩, h3, h4⟩ => ⟨⟨a, c, h1, h2.mono (fun _ _ _ => trivial)⟩, h3, h4⟩
theorem sortM_tail (ms : List Msg) : sortM (sortM ms).tail = (sortM ms).tail := by
  have h := sortL_srt (key := lane1) ms
  show sortL lane1 (sortL lane1 ms).tail = (sortL lane1 ms).tail
  cases hs : sortL lane1 ms with
  | nil => rfl
  | cons m r => rw [hs] at h; exact sortL_srt_id (List.pairwise_cons.1 h).2
theorem sortM_filter (f : Msg → Bool) (ms : List Msg) : sortM ((sortM ms).filter f) = (sortM ms).filter f := sortL_srt_id (Srt.sub (sortL_srt (key := lane1) ms) f)
end
section
variable {w w' : World} {ok okw : Nat → Prop} {ln pl : Int} {v : Value} {ps : List (Value × Msg)}
def RTake (ok okw : Nat → Prop) (ln pl : Int) (ps : List (Value × Msg)) (e : Ending) (w' : World) : Prop :=
  ∃ v1 a c, e = .returned (.tuple #[.agg #[.int .i64 ln, .int .i64 pl, v1], .agg #[.slice a (hdM (ps.map Prod.snd)).words.length c, .int .i64 (hdM (ps.map Prod.snd)).lane, .int .i64 (hdM (ps.map Prod.snd)).stamp, .int .i64 (hdM (ps.map Prod.snd)).late, .int .i64 (hdM (ps.map Prod.snd)).seq], .bool (!(ps.map Prod.snd).isEmpty)]) ∧ MsgsAt ok okw w' v1 ps.tail ∧ Plain v1 ∧
    IntsAt okw w' (.slice a (hdM (ps.map Prod.snd)).words.length c) (hdM (ps.map Prod.snd)).words
theorem rtake_any (h : MsgsAt ok okw w v ps) (hp : Plain v) : Calls Try.prog 30 #[.agg #[.int .i64 ln, .int .i64 pl, v]] w fun e w' => RTake ok okw ln pl ps e w' ∧ Below w.heap.size w w' := by
  cases ps with
  | nil =>
    obtain ⟨ao, cap, rfl⟩ := h.shape
    exact (Rl.take_nil w ao cap).mono fun e w' ⟨h1, h2⟩ => ⟨⟨_, none, 0, h1, h.below h2, hp, IntsAt.nil _ _⟩, h2⟩
  | cons p rest =>
    obtain ⟨a, c, hs⟩ := (h.words p (by simp)).shape
    refine (Rl.take_c h).mono fun e w' ⟨v1, h1, h2, h3, h4, h5⟩ => ⟨⟨v1, a, c, ?_, h2, h3, ?_⟩, h5⟩
    · rw [h1, hs]; rfl
    · rw [hs] at h4; exact h4
end
section
variable {base : Nat} {w0 w u u' : World} {M : Nat → Prop} {lb rb : Nat} {ln pl E : Int} {ms S : List Msg} {rv v : Value} {ps : List (Value × Msg)} {g g' : List Nat}
/-- A list of the reference's that lies apart from the lanes and from boxes. -/
def LRes (base : Nat) (M : Nat → Prop) (rb : Nat) (ln pl : Int) (S : List Msg) (g : List Nat) (u : World) (v : Value) : Prop :=
  ∃ rv' ps', v = .agg #[.int .i64 ln, .int .i64 pl, rv'] ∧ ps'.map Prod.snd = S ∧ MsgsAt (fun b => (base ≤ b ∧ ¬ M b ∧ b ≠ rb) ∧ b ∉ g) (fun b => b < base) u rv' ps' ∧ Plain rv'
theorem LRes.st (h : LRes base M rb ln pl S g u v) (hs : StepG g u g' u') : LRes base M rb ln pl S g' u' v := by
  obtain ⟨rv', ps', h1, h2, h3, h4⟩ := h
  exact ⟨rv', ps', h1, h2, (h3.mono (ok' := fun b => (base ≤ b ∧ ¬ M b ∧ b ≠ rb) ∧ b ∉ g') (okw' := fun b => b < base) (fun b hb hlt => ⟨hb.1, fun hm => (hs.n b hm).elim hb.2 (by omega)⟩) (fun _ h _ => h)).below hs.b, h4⟩
def PRes (base : Nat) (M : Nat → Prop) (rb : Nat) (ln pl : Int) (S : List Msg) (E : Int) (g : List Nat) (u : World) (v : Value) : Prop := ∃ x, v = .tuple #[x, .int .i64 E] ∧ LRes base M rb ln pl S g u x
theorem PRes.st (h : PRes base M rb ln pl S E g u v) (hs : StepG g u g' u') : PRes base M rb ln pl S E g' u' v := let ⟨x, h1, h2⟩ := h; ⟨x, h1, h2.st hs⟩
/-- What Put answers at a world of the region. -/
theorem PRes.of {e : Ending} (h : PS base w0 w M lb rb ln pl ms rv ps) (hb : Below w.heap.size w u) (hg : Boxes w g u) (hp : PutAny u (fun b => (base ≤ b ∧ ¬ M b ∧ b ≠ rb) ∧ b < w.heap.size) (fun b => b < base) ln pl E S e u') : ∃ v, e = .returned v ∧ PRes base M rb ln pl S E g u' v ∧ Below u.heap.size u u' := by
  obtain ⟨rv', ps', rfl, h1, h2, h3, h4⟩ := hp
  refine ⟨_, rfl, ⟨_, rfl, rv', ps', rfl, h1, h2.mono (fun b hb' _ => ?_) (fun _ h _ => h), h3⟩, h4⟩
  rcases hb' with hb' | hb'
  · exact ⟨hb'.1, fun hm => by have := (hg b hm).1; omega⟩
  · have hw := Nat.le_trans hb.size hb'
    exact ⟨⟨Nat.le_trans h.W.le hw, fun hm => by have := h.W.lt b hm; omega, fun e => by have := h.r.lt; omega⟩, fun hm => by have := (hg b hm).2; omega⟩
/-- The box that a region made gets the list. -/
theorem LRes.box {nb : Nat} {T : TypeId} {x y z : Value} (h : LRes base M rb ln pl S g u v) (hbs : base ≤ w.heap.size) (hb : Below w.heap.size w u) (hg : Boxes w g u) (hn : nb ∈ g) (hp : pts u nb [x, y, z] T) :
    ∃ rv' ps', v = .agg #[.int .i64 ln, .int .i64 pl, rv'] ∧ ps'.map Prod.snd = S ∧ Plain rv' ∧ pts (set3 u nb ln pl rv') nb [.int .i64 ln, .int .i64 pl, rv'] T ∧ MsgsAt (fun b => base ≤ b ∧ ¬ M b ∧ b ≠ rb) (fun b => b < base) (set3 u nb ln pl rv') rv' ps' ∧ Below w.heap.size w (set3 u nb ln pl rv') := by
  obtain ⟨rv', ps', h1, h2, h3, h4⟩ := h
  have hnb := (hg nb hn).1
  refine ⟨rv', ps', h1, h2, h4, ?_, ?_, ?_⟩
  · have := ((hp.set 0 (.int .i64 ln)).set 1 (.int .i64 pl)).set 2 rv'
    simpa [set3] using this
  · have h5 := h3.kept (w' := set3 u nb ln pl rv') (by rw [set3_size]; exact Nat.le_refl _) (fun b hb _ => set3_other _ _ _ _ _ (fun e => by subst e; rcases hb with hb | hb; exact hb.2 hn; exact (by omega)))
    exact h5.mono (fun b h _ => h.1) (fun _ h _ => h)
  · exact ((hb.setCell (p := ⟨nb, 0, none⟩) hnb _).setCell (p := ⟨nb, 1, none⟩) hnb _).setCell (p := ⟨nb, 2, none⟩) hnb _
/-- The list is emptied in its box. -/
theorem PS.set0 (h : PS base w0 w M lb rb ln pl ms rv ps) : PS base w0 (w.setCell ⟨rb, 2, none⟩ (.slice none 0 0)) M lb rb ln pl ms (.slice none 0 0) [] := by
  have hk : ∀ b, b ≠ rb → (w.setCell ⟨rb, 2, none⟩ (.slice none 0 0)).heap[b]? = w.heap[b]? := fun b hb => Below.heap_setCell _ _ _ _ hb
  have hsz : (w.setCell ⟨rb, 2, none⟩ (.slice none 0 0)).heap.size = w.heap.size := by simp
  refine ⟨h.L.kept (by rw [hsz]; exact Nat.le_refl _) (fun b hb _ => hk b (fun e => h.nr (e ▸ hb))), ⟨h.W.below.setCell (p := ⟨rb, 2, none⟩) h.hr _, h.W.ge, fun b hb => by rw [hsz]; exact h.W.lt b hb, by rw [hsz]; exact h.W.le⟩, ?_, h.nr, h.hr, MsgsAt.nil _ _ _, Plain.nil⟩
  have := h.r.set 2 (.slice none 0 0)
  simpa using this
end
end Go.Proofs.Ytealopempjempaa.La
