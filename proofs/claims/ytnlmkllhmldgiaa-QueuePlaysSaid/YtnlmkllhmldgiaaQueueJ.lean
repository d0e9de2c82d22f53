/- DERIVED. The port's calls on messages, in words that keep what lies apart from the port: Sweep, Ask, All. -/
import Derived.Test.YtnlmkllhmldgiaaQueueI
import Derived.Test.YtnlmkllhmldgiaaK3
namespace Go.Proofs.Ytnlmkllhmldgiaa.Qu
set_option linter.unusedVariables false
set_option linter.unusedSimpArgs false
open Go.RowKit Go.Maps Go.Proofs.Ytnlmkllhmldgiaa.K Go.Proofs.Ytnlmkllhmldgiaa.Lb Go.Proofs.Ytnlmkllhmldgiaa.Wh
section
variable {w w' : World} {base pb wb mb : Nat} {hold : Int} {ps ps' : List (Value × Msg)} {lv rv lv' rv' : Value} {xs' : List Int} {n n' N : Nat} {D D' : DataW Unit} {s s' : Int} {M : Nat → Prop}
/-- Behind a call that takes messages away. -/
theorem PortM.sub (hP : PortAt w base pb wb mb hold lv rv ps xs' n D s) (hM : ∀ b, PMut pb wb mb lv rv b → M b) (hW : WordsIn M w ps) (hP' : PortAt w' base pb wb mb hold lv' rv' ps' [] n' D' s') (hN : n' ≤ N) (hsub : ∀ p ∈ ps', p ∈ ps) (hc : Chg (PMut pb wb mb lv rv) w w')
    (hl : ∀ b, lv'.ownBlock = some b → M b ∨ w.heap.size ≤ b) (hr : ∀ b, rv'.ownBlock = some b → M b ∨ w.heap.size ≤ b) : PortM w' base pb hold ps' N (grow M w w') := by
  refine ⟨wb, mb, lv', rv', n', D', s', hP', hN, fun b hb => ?_, ?_⟩
  · have hlt := hP'.mut_lt hb
    rcases hb with hb | hb | hb | hb | hb
    · exact .inl (hM b (.inl hb))
    · exact .inl (hM b (.inr (.inl hb)))
    · exact .inl (hM b (.inr (.inr (.inl hb))))
    · rcases hl b hb with h | h
      · exact .inl h
      · exact .inr ⟨h, hlt⟩
    · rcases hr b hb with h | h
      · exact .inl h
      · exact .inr ⟨h, hlt⟩
  · exact WordsIn.both2 hc.size (fun b hb hlt => hc.block b hlt hb) (hW.sub hsub) (hP.words.sub hsub)
theorem pSweepM (h : PortM w base pb hold ps N M) (hsm : ps.length < 1000000) (now : Int) : Calls Try.prog 17 #[.pointer (some ⟨pb, 0, none⟩), .int .i64 now] w fun e w' =>
    (∃ ov ok okw, e = .returned ov ∧ MsgsAt ok okw w' ov (ps.filter (lateP now))) ∧ PortM w' base pb hold (ps.filter (fun p => !lateP now p)) N (grow M w w') ∧ Chg M w w' := by
  obtain ⟨wb, mb, lv, rv, n, D, s, hP, hn, hM, hW⟩ := h
  exact (sweep_c hP hsm now).mono fun e w' ⟨ov, lv', he, h1, h2, h3, _, h5⟩ => ⟨⟨ov, _, _, he, h2⟩, PortM.sub hP hM hW h1 hn (fun p hp => (List.mem_filter.1 hp).1) h3 (fun b hb => .inr (h5 b hb)) (fun b hb => .inl (hM b (.inr (.inr (.inr (.inr hb)))))), h3.mono hM⟩
theorem pAskHasM {sv : Value} {m : Msg} {r : List (Value × Msg)} (h : PortM w base pb hold ((sv, m) :: r) N M) (x u now : Int) :
    Calls Try.prog 10 #[.pointer (some ⟨pb, 0, none⟩), .int .i64 x, .int .i64 u, .int .i64 now] w fun e w' => e = .returned (.tuple #[.agg #[sv, .int .i64 m.lane, .int .i64 m.stamp, .int .i64 m.late, .int .i64 m.seq], .int .i64 0]) ∧ IntsAt (fun _ => True) w' sv m.words ∧ PortM w' base pb hold r N (grow M w w') ∧ Chg M w w' := by
  obtain ⟨wb, mb, lv, rv, n, D, s, hP, hn, hM, hW⟩ := h
  exact (askHas_c hP x u now).mono fun e w' ⟨he, lv', h1, h2, h3, h4⟩ => ⟨he, (h3.kept h2.size (fun b hb hlt => h2.block b hlt hb)).mono (fun _ _ _ => trivial), PortM.sub hP hM hW h1 hn (fun p hp => List.mem_cons_of_mem _ hp) h2 (fun b hb => .inl (hM b (.inr (.inr (.inr (.inl (h4 b hb))))))) (fun b hb => .inl (hM b (.inr (.inr (.inr (.inr hb)))))), h2.mono hM⟩
theorem PortM.below (h : PortM w base pb hold ps N M) (hb : Below w.heap.size w w') : PortM w' base pb hold ps N M := h.kept hb.size (fun b _ hlt => hb.block b hlt)
end
theorem filter_snd {xs ys : List (Value × Msg)} (h : xs.map Prod.snd = ys.map Prod.snd) (f : Msg → Bool) : (xs.filter (fun p => f p.2)).map Prod.snd = (ys.filter (fun p => f p.2)).map Prod.snd := by
  have e : ∀ l : List (Value × Msg), (l.filter (fun p => f p.2)).map Prod.snd = (l.map Prod.snd).filter f := fun l => by rw [List.filter_map]; rfl
  rw [e, e, h]
end Go.Proofs.Ytnlmkllhmldgiaa.Qu
