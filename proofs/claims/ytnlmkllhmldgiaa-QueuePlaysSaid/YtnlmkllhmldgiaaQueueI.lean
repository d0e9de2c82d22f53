/- DERIVED. A step's message (of at most 8 words), and the port's calls on messages in short words. -/
import Derived.Test.YtnlmkllhmldgiaaQueueH
import Derived.Test.YtnlmkllhmldgiaaQueueF
namespace Go.Proofs.Ytnlmkllhmldgiaa.Qu
set_option linter.unusedVariables false
set_option linter.unusedSimpArgs false
open Go.RowKit Go.Maps Go.Proofs.Ytnlmkllhmldgiaa.K Go.Proofs.Ytnlmkllhmldgiaa.Lb Go.Proofs.Ytnlmkllhmldgiaa.Wh
/-- A message of at most 8 words. -/
def cut8 (m : Msg) : Msg := { m with words := m.words.take 8 }
theorem IntsAt.cut {ok : Nat → Prop} {w : World} {ao : Option Addr} {cap : Nat} {xs : List Int} (h : IntsAt ok w (.slice ao xs.length cap) xs) (k : Nat) : IntsAt ok w (.slice ao (xs.take k).length cap) (xs.take k) := by
  obtain ⟨ao', cap', hv, ⟨h1, h2, h3⟩, hx⟩ := h
  simp only [Value.slice.injEq] at hv
  obtain ⟨rfl, -, rfl⟩ := hv
  refine ⟨ao, cap, rfl, ⟨by simp; omega, h2, h3⟩, ?_⟩
  rcases hx with rfl | ⟨g, o, e, h4, h5, h6⟩
  · exact .inl (by simp)
  · exact .inr ⟨g, o, e, h4, h5, fun i hi => by rw [h6 i (by simp at hi; omega)]; simp⟩
theorem message_c {ok : Nat → Prop} {w : World} (q : St) {a : Option Addr} {c : Nat} (h : IntsAt ok w (.slice a q.m.words.length c) q.m.words) : Calls Try.prog 16 #[.agg #[.int .i64 q.k, .int .i64 q.p, .int .i64 q.u, .int .i64 q.n, .slice a q.m.words.length c, .int .i64 q.m.lane, .int .i64 q.m.stamp, .int .i64 q.m.late, .int .i64 q.m.seq]] w fun e w' => e = .returned (.agg #[.slice a (cut8 q.m).words.length c, .int .i64 q.m.lane, .int .i64 q.m.stamp, .int .i64 q.m.late, .int .i64 q.m.seq]) ∧ Below w.heap.size w w' := by
  have hmin := minTwo
  have hl := h.get.2.1
  have hm := h.get.2.2.1
  have e8 : ((cut8 q.m).words.length : Int) = min (q.m.words.length : Int) 8 := by unfold cut8; simp; omega
  have e8n : (cut8 q.m).words.length = (min (q.m.words.length : Int) 8).toNat := by unfold cut8; simp; omega
  have hmn : min (q.m.words.length : Int) 8 ≤ c := by omega
  have hmz : 0 ≤ min (q.m.words.length : Int) 8 := by omega
  have e8n := hid e8n
  clear e8
  go_enter Try.func16, Try.ntmps16
  go_wp2
  refine bodyPost_ret (v := .agg #[.slice a (min (q.m.words.length : Int) 8).toNat c, .int .i64 q.m.lane, .int .i64 q.m.stamp, .int .i64 q.m.late, .int .i64 q.m.seq]) (by simp [results, Try.results16, go_sem]) rfl ⟨by rw [e8n.out], (((Below.refl _ _).alloc (Nat.le_refl _) _).alloc (by simp) _).alloc (by simp; omega) _⟩
section
variable {w : World} {base pb : Nat} {hold : Int} {ps : List (Value × Msg)} {xs : List Int} {N : Nat}
theorem pPutFullM (h : PortOk w base pb hold ps [] N) (m : Msg) (a : Option Addr) (n c : Nat) (hf : (ps.length : Int) = hold) :
    Calls Try.prog 12 #[.pointer (some ⟨pb, 0, none⟩), .agg #[.slice a n c, .int .i64 m.lane, .int .i64 m.stamp, .int .i64 m.late, .int .i64 m.seq]] w fun e w' => e = .returned (.tuple #[.int .i64 0, .bool false, .int .i64 10]) ∧ PortOk w' base pb hold ps [] N ∧ Keeps base w w' := by
  have h0 := h
  obtain ⟨wb, mb, lv, rv, n', D, s, hP, hn⟩ := h
  exact (putFull_c hP (.slice a n c, m) ⟨a, n, c, rfl⟩ hf).mono fun e w' ⟨he, hb⟩ => ⟨he, h0.below hb, Keeps.of_below hb⟩
theorem pPutAddM (h : PortOk w base pb hold ps [] N) (m : Msg) {ok : Nat → Prop} {a : Option Addr} {c : Nat} (hi : IntsAt ok w (.slice a m.words.length c) m.words) (hl : m.words.length ≤ 17592186044416) (hf : (ps.length : Int) ≠ hold) (hsm : ps.length < 1000000) :
    Calls Try.prog 12 #[.pointer (some ⟨pb, 0, none⟩), .agg #[.slice a m.words.length c, .int .i64 m.lane, .int .i64 m.stamp, .int .i64 m.late, .int .i64 m.seq]] w fun e w' => e = .returned (.tuple #[.int .i64 0, .bool false, .int .i64 0]) ∧ (∃ sv', PortOk w' base pb hold (ps ++ [(sv', m)]) [] N) ∧ Keeps base w w' := by
  obtain ⟨wb, mb, lv, rv, n, D, s, hP, hn⟩ := h
  exact (putAdd_c hP (.slice a m.words.length c, m) hi hl hf hsm).mono fun e w' ⟨he, lv', sv', h1, h2, _, _⟩ => ⟨he, ⟨sv', wb, mb, _, _, _, _, _, h1, hn⟩, Keeps.of_chg hP h2⟩
/-- Of one row of messages two things are known of the words' blocks, at w; one of them at w' too. -/
theorem _root_.Go.Proofs.Ytnlmkllhmldgiaa.K.WordsIn.both {ok1 ok2 : Nat → Prop} {w w' : World} {ps : List (Value × Msg)} (h' : WordsIn ok1 w' ps) (h1 : WordsIn ok1 w ps) (h2 : WordsIn ok2 w ps) : WordsIn ok2 w' ps := by
  intro p hp
  obtain ⟨ao, cap, hv, hl, hx⟩ := h' p hp
  obtain ⟨ao2, cap2, hv2, _, hx2⟩ := h2 p hp
  rw [hv] at hv2
  simp only [Value.slice.injEq] at hv2
  obtain ⟨rfl, -, rfl⟩ := hv2
  refine ⟨ao, cap, hv, hl, ?_⟩
  rcases hx with hx | ⟨g, o, e1, e2, e3, e4⟩
  · exact .inl hx
  · rcases hx2 with hx2 | ⟨g2, o2, f1, f2, f3, _⟩
    · exact .inl hx2
    · rw [e1] at f1
      simp only [Option.some.injEq, Addr.mk.injEq] at f1
      obtain ⟨rfl, rfl, _⟩ := f1
      exact .inr ⟨g, o, e1, f2, e3, e4⟩
theorem _root_.Go.Proofs.Ytnlmkllhmldgiaa.K.WordsIn.both2 {M P : Nat → Prop} {w w' : World} {ps : List (Value × Msg)} {Q : Nat → Prop} (hs : w.heap.size ≤ w'.heap.size) (hk : ∀ b, ¬ P b → b < w.heap.size → w'.heap[b]? = w.heap[b]?) (h1 : WordsIn M w ps) (h2 : WordsIn (fun b => ¬ P b) w ps) : WordsIn (fun b => M b ∨ Q b) w' ps := by
  have h3 := h2.kept hs (fun b hb hlt => hk b hb hlt)
  have h4 : WordsIn M w' ps := WordsIn.both h3 h2 h1
  exact h4.mono (fun b hb _ => .inl hb)
/-- A port; M: a bound on its own blocks, its words' too. -/
def PortM (w : World) (base pb : Nat) (hold : Int) (ps : List (Value × Msg)) (N : Nat) (M : Nat → Prop) : Prop := ∃ wb mb lv rv n D s, PortAt w base pb wb mb hold lv rv ps [] n D s ∧ n ≤ N ∧ (∀ b, PMut pb wb mb lv rv b → M b) ∧ WordsIn M w ps
theorem PortM.ok {M : Nat → Prop} (h : PortM w base pb hold ps N M) : PortOk w base pb hold ps [] N := by
  obtain ⟨wb, mb, lv, rv, n, D, s, hP, hn, _, _⟩ := h
  exact ⟨wb, mb, lv, rv, n, D, s, hP, hn⟩
theorem PortM.new (h : PortOk w base pb hold [] [] N) : PortM w base pb hold [] N (fun b => base ≤ b ∧ b < w.heap.size) := by
  obtain ⟨wb, mb, lv, rv, n, D, s, hP, hn⟩ := h
  exact ⟨wb, mb, lv, rv, n, D, s, hP, hn, fun b hb => ⟨hP.mut_ge hb, hP.mut_lt hb⟩, WordsIn.nil _ _⟩
/-- What leaves M's blocks as they were leaves the port. -/
theorem PortM.kept {w' : World} {M : Nat → Prop} (h : PortM w base pb hold ps N M) (hs : w.heap.size ≤ w'.heap.size) (hk : ∀ b, M b → b < w.heap.size → w'.heap[b]? = w.heap[b]?) : PortM w' base pb hold ps N M := by
  obtain ⟨wb, mb, lv, rv, n, D, s, hP, hn, hM, hW⟩ := h
  have hW' := hW.kept hs hk
  have k : ∀ b, PMut pb wb mb lv rv b → w'.heap[b]? = w.heap[b]? := fun b hb => hk b (hM b hb) (hP.mut_lt hb)
  refine ⟨wb, mb, lv, rv, n, D, s, ⟨hP.at_.of (k pb (.inl rfl)), hP.wh.kept (k wb (.inr (.inl rfl))) (k mb (.inr (.inr (.inl rfl)))), own_of hP.l (fun b e => k b (.inr (.inr (.inr (.inl e))))), own_of hP.row (fun b e => k b (.inr (.inr (.inr (.inr e))))), ?_, hP.ge⟩, hn, hM, hW'⟩
  exact WordsIn.both hW' hW hP.words
theorem pPutAddM' {M : Nat → Prop} (h : PortM w base pb hold ps N M) (m : Msg) {ok : Nat → Prop} {a : Option Addr} {c : Nat} (hi : IntsAt ok w (.slice a m.words.length c) m.words) (hl : m.words.length ≤ 17592186044416) (hf : (ps.length : Int) ≠ hold) (hsm : ps.length < 1000000) :
    Calls Try.prog 12 #[.pointer (some ⟨pb, 0, none⟩), .agg #[.slice a m.words.length c, .int .i64 m.lane, .int .i64 m.stamp, .int .i64 m.late, .int .i64 m.seq]] w fun e w' => e = .returned (.tuple #[.int .i64 0, .bool false, .int .i64 0]) ∧ (∃ sv', PortM w' base pb hold (ps ++ [(sv', m)]) N (fun b => M b ∨ (w.heap.size ≤ b ∧ b < w'.heap.size))) ∧ Chg M w w' := by
  obtain ⟨wb, mb, lv, rv, n, D, s, hP, hn, hM, hW⟩ := h
  exact (putAdd_c hP (.slice a m.words.length c, m) hi hl hf hsm).mono fun e w' ⟨he, lv', sv', h1, h2, h3, h4⟩ => ⟨he, ⟨sv', wb, mb, _, _, _, _, _, h1, hn, fun b hb => by
    have hlt := h1.mut_lt hb
    rcases hb with hb | hb | hb | hb | hb
    · exact .inl (hM b (.inl hb))
    · exact .inl (hM b (.inr (.inl hb)))
    · exact .inl (hM b (.inr (.inr (.inl hb))))
    · rcases h3 b hb with h4 | h4
      · exact .inl (hM b (.inr (.inr (.inr (.inl h4)))))
      · exact .inr ⟨h4, hlt⟩
    · exact .inl (hM b (.inr (.inr (.inr (.inr hb))))), WordsIn.snoc (WordsIn.both2 h2.size (fun b hb hlt => h2.block b hlt hb) hW hP.words) (h4.mono (fun b hb hlt => .inr ⟨hb, hlt⟩))⟩, h2.mono hM⟩
def lateM (now : Int) (m : Msg) : Bool := lateT now m.late
theorem pSweep (h : PortOk w base pb hold ps xs N) (hsm : ps.length < 1000000) (now : Int) : Calls Try.prog 17 #[.pointer (some ⟨pb, 0, none⟩), .int .i64 now] w fun e w' =>
    (∃ ov ok okw, e = .returned ov ∧ MsgsAt ok okw w' ov (ps.filter (lateP now))) ∧ PortOk w' base pb hold (ps.filter (fun p => !lateP now p)) xs N ∧ Keeps base w w' := by
  obtain ⟨wb, mb, lv, rv, n, D, s, hP, hn⟩ := h
  exact (sweep_c hP hsm now).mono fun e w' ⟨ov, lv', he, h1, h2, h3, _⟩ => ⟨⟨ov, _, _, he, h2⟩, ⟨wb, mb, _, _, _, _, _, h1, hn⟩, Keeps.of_chg hP h3⟩
theorem pAll (h : PortOk w base pb hold ps xs N) (hsm : ps.length < 1000000) (hwl : ∀ p ∈ ps, p.2.words.length ≤ 17592186044416) : Calls Try.prog 20 #[.pointer (some ⟨pb, 0, none⟩)] w fun e w' =>
    (∃ v' qs ok okw, e = .returned v' ∧ qs.map Prod.snd = ps.map Prod.snd ∧ MsgsAt ok okw w' v' qs) ∧ Below w.heap.size w w' := by
  obtain ⟨wb, mb, lv, rv, n, D, s, hP, hn⟩ := h
  exact (all_c hP hsm hwl).mono fun e w' ⟨v', qs, he, h1, h2, h3⟩ => ⟨⟨v', qs, _, _, he, h1, h2⟩, h3⟩
end
end Go.Proofs.Ytnlmkllhmldgiaa.Qu
