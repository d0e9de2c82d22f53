/- DERIVED. Copies whose words may be written: slices.Clone, lane.Clone, clones, All once more, with this beside. No statement is proved here. -/
import Derived.Test.YtbbhhjoohfkanaaLaneH
namespace Go.Proofs.Ytbbhhjoohfkanaa.Lw
set_option linter.unusedVariables false
set_option linter.unusedSimpArgs false
open Go.RowKit Go.Proofs.Ytbbhhjoohfkanaa.K Go.Proofs.Ytbbhhjoohfkanaa.Sp Go.Proofs.Ytbbhhjoohfkanaa.Lb Go.Proofs.Ytbbhhjoohfkanaa.So Go.Proofs.Ytbbhhjoohfkanaa.La
/-- A slice of ints that may be written: its block is known whole. -/
structure IntsOwn (ok : Nat → Prop) (w : World) (v : Value) (xs : List Int) : Prop where
  at_ : IntsAt ok w v xs
  own : xs = [] ∨ ∃ g cap ex T, v = .slice (some ⟨g, 0, none⟩) xs.length cap ∧ pts w g (xs.map (Value.int .i64) ++ ex) T
section
variable {ok ok' : Nat → Prop} {w w' : World} {v : Value} {xs : List Int}
theorem IntsOwn.blk (h : IntsOwn ok w v xs) {g cap : Nat} (hv : v = .slice (some ⟨g, 0, none⟩) xs.length cap) (hx : xs ≠ []) : ok g ∧ g < w.heap.size := by
  obtain ⟨ao, cap', e, _, hx'⟩ := h.at_
  rcases hx' with hx' | ⟨g', o, e1, h1, h2, _⟩
  · exact absurd hx' hx
  · rw [hv] at e
    simp only [Value.slice.injEq] at e
    rw [← e.1] at e1
    simp only [Option.some.injEq, Addr.mk.injEq] at e1
    rw [e1.1]; exact ⟨h1, h2⟩
theorem IntsOwn.kept (h : IntsOwn ok w v xs) (hs : w.heap.size ≤ w'.heap.size) (hk : ∀ b, ok b → b < w.heap.size → w'.heap[b]? = w.heap[b]?) : IntsOwn ok w' v xs := by
  refine ⟨h.at_.kept hs hk, ?_⟩
  by_cases hx : xs = []
  · exact .inl hx
  · rcases h.own with h1 | ⟨g, cap, ex, T, hv, hp⟩
    · exact .inl h1
    · obtain ⟨h2, h3⟩ := h.blk hv hx
      exact .inr ⟨g, cap, ex, T, hv, hp.of (hk g h2 h3)⟩
theorem IntsOwn.below (h : IntsOwn ok w v xs) (hb : Below w.heap.size w w') : IntsOwn ok w' v xs := h.kept hb.size (fun b _ hb' => hb.block b hb')
theorem IntsOwn.mono (h : IntsOwn ok w v xs) (hk : ∀ b, ok b → b < w.heap.size → ok' b) : IntsOwn ok' w v xs := ⟨h.at_.mono hk, h.own⟩
theorem IntsOwn.set (h : IntsOwn ok w v xs) {b o : Nat} {u : Value} (hb : ∀ c, ok c → c ≠ b) : IntsOwn ok (w.setCell ⟨b, o, none⟩ u) v xs :=
  h.kept (by simp) (fun c hc _ => Below.heap_setCell _ _ _ _ (hb c hc))
theorem IntsOwn.shape (h : IntsOwn ok w v xs) : ∃ ao cap, v = .slice ao xs.length cap := h.at_.shape
theorem IntsOwn.nil (ok : Nat → Prop) (w : World) : IntsOwn ok w (.slice none 0 0) [] := ⟨IntsAt.nil _ _, .inl rfl⟩
end
def WordsOwn (ok : Nat → Prop) (w : World) (ps : List (Value × Msg)) : Prop := ∀ p ∈ ps, IntsOwn ok w p.1 p.2.words
section
variable {ok ok' : Nat → Prop} {w w' : World} {ps : List (Value × Msg)}
theorem WordsOwn.kept (h : WordsOwn ok w ps) (hs : w.heap.size ≤ w'.heap.size) (hk : ∀ b, ok b → b < w.heap.size → w'.heap[b]? = w.heap[b]?) : WordsOwn ok w' ps := fun p hp => (h p hp).kept hs hk
theorem WordsOwn.below (h : WordsOwn ok w ps) (hb : Below w.heap.size w w') : WordsOwn ok w' ps := fun p hp => (h p hp).below hb
theorem WordsOwn.nil (ok : Nat → Prop) (w : World) : WordsOwn ok w [] := fun p hp => by cases hp
theorem WordsOwn.at_ (h : WordsOwn ok w ps) : WordsIn ok w ps := fun p hp => (h p hp).at_
theorem WordsOwn.snoc {p : Value × Msg} (h : WordsOwn ok w ps) (hp : IntsOwn ok w p.1 p.2.words) : WordsOwn ok w (ps ++ [p]) := fun q hq => by
  rcases List.mem_append.1 hq with h1 | h1
  · exact h q h1
  · simp at h1; subst h1; exact hp
theorem WordsOwn.mono (h : WordsOwn ok w ps) (hk : ∀ b, ok b → b < w.heap.size → ok' b) : WordsOwn ok' w ps := fun p hp => (h p hp).mono hk
theorem WordsOwn.mono' (h : WordsOwn ok w' ps) (hk : ∀ b, ok b → b < w.heap.size → ok' b) (h0 : WordsOwn ok w ps) : WordsOwn ok' w' ps := fun p hp => ⟨(h.at_.mono' hk h0.at_) p hp, (h p hp).own⟩
end
theorem run_cloneInts2 {P : Program} {w : World} {t ty e : TypeId} (hE : ElemOk P t e 1 8) {ok : Nat → Prop} (bo : Option Addr) {ao : Option Addr} {n cap : Nat} {xs : List Int} (h : IntsAt ok w (.slice ao n cap) xs) (hn : n ≤ 17592186044416) :
    ∃ v' w', (Builtin.append_ #[t, t] ty #[.slice bo 0 0, .slice ao n cap]).run P w = .ok v' w' ∧ Below w.heap.size w w' ∧ IntsOwn (fun b => w.heap.size ≤ b) w' v' xs := by
  have hl : n = xs.length := h.get.1
  obtain ⟨v', w', hr, hb, h0, h1⟩ := run_clone (ty := ty) hE bo (h.src hE.u) (by unfold maxLen; omega) (by omega)
  refine ⟨v', w', hr, hb, ?_⟩
  by_cases hz : n = 0
  · obtain ⟨rfl, rfl⟩ := h0 hz
    have : xs = [] := List.eq_nil_of_length_eq_zero (by omega)
    subst this
    exact ⟨⟨bo, 0, rfl, ⟨by simp, by simp, fun _ => rfl⟩, .inl rfl⟩, .inl rfl⟩
  · have ho := h1 (by omega)
    refine ⟨IntsAt.of_own ho, .inr ?_⟩
    obtain ⟨g, cap', ex, e1, _, hp, _⟩ := own_split ho (by omega)
    exact ⟨g, cap', ex, _, by rw [e1, hl], hp⟩
set_option maxRecDepth 100000 in
theorem clone2_c {ok : Nat → Prop} {w : World} {v : Value} {xs : List Int} (h : IntsAt ok w v xs) (hn : xs.length ≤ 17592186044416) :
    Calls Try.prog 49 #[v] w fun e w' => ∃ v', e = .returned v' ∧ IntsOwn (fun b => w.heap.size ≤ b) w' v' xs ∧ Below w.heap.size w w' := by
  obtain ⟨ao, cap, rfl, ⟨hlc, hcm, hnc⟩, hx⟩ := h
  have h : IntsAt ok w (.slice ao xs.length cap) xs := ⟨ao, cap, rfl, ⟨hlc, hcm, hnc⟩, hx⟩
  cases ao with
  | none =>
    have h0 : cap = 0 := hnc rfl
    have hx0 : xs = [] := List.eq_nil_of_length_eq_zero (by omega)
    subst hx0 h0
    exact (clone_nil w).mono fun e w' ⟨he, hw⟩ => ⟨_, he, by subst hw; exact ⟨IntsOwn.nil _ _, Below.refl _ _⟩⟩
  | some a =>
    have hr : ∃ v' w', (Builtin.append_ #[28, 28] 28 #[.slice (some ⟨w.heap.size, 0, none⟩) 0 0, .slice (some a) xs.length cap]).run Try.prog (w.alloc (.cells #[] 3)) = .ok v' w' ∧ Below (w.alloc (.cells #[] 3)).heap.size (w.alloc (.cells #[] 3)) w' ∧ IntsOwn (fun b => (w.alloc (.cells #[] 3)).heap.size ≤ b) w' v' xs :=
      run_cloneInts2 elInt _ (h.below ((Below.refl _ _).alloc (Nat.le_refl _) _)) hn
    obtain ⟨v', w', hr, hb, hi⟩ := hr
    have hz := notNil
    go_enter Try.func49, Try.ntmps49
    go_wp2_with (at_builtin; refine wpList_append_run rfl (.tmp 5) (.tmp 6) 28 rfl rfl rfl hr ?_)
    go_ret
    refine ⟨v', rfl, hi.mono (fun b h _ => by simp at h; omega), Below.next ((Below.refl _ _).alloc (Nat.le_refl _) _) hb (by simp)⟩

/-- The message's copy. -/
theorem mclone2_c {ok : Nat → Prop} {w : World} {p : Value × Msg} (h : IntsAt ok w p.1 p.2.words) (hn : p.2.words.length ≤ 17592186044416) :
    Calls Try.prog 34 #[aggM p] w fun e w' => ∃ v', e = .returned (aggM (v', p.2)) ∧ IntsOwn (fun b => w.heap.size ≤ b) w' v' p.2.words ∧ Below w.heap.size w w' := by
  obtain ⟨sv, m⟩ := p
  simp only at h hn
  obtain ⟨ao, cap, rfl⟩ := h.shape
  unfold aggM
  simp only
  go_enter Try.func34, Try.ntmps34
  go_wp2_with (first | (go_at_call 49; (with_reducible refine (clone2_c (h.below (((Below.refl w.heap.size w).alloc (Nat.le_refl _) _).alloc (by simp) _)) hn).mono ?_); rintro e w' ⟨v', rfl, hi, hb⟩; obtain ⟨av, cv, rfl⟩ := hi.shape; obtain ⟨hc, hf, hz⟩ := bcellN (w.heap.size + 2) (by simp) hb))
  have hB : Below w.heap.size w w' := Below.next (((Below.refl w.heap.size w).alloc (Nat.le_refl _) _).alloc (by simp) _) hb (by simp; omega)
  refine bodyPost_ret (v := .agg #[.slice av m.words.length cv, .int .i64 m.lane, .int .i64 m.stamp, .int .i64 m.late, .int .i64 m.seq]) (by simp [results, Try.results34, go_sem, hc, hz]) rfl ⟨_, rfl, ?_, ?_⟩
  · have hne : ∀ b, (w.heap.size + 2 ≤ b) → b ≠ w.heap.size ∧ b ≠ w.heap.size + 1 := fun b h => by omega
    exact ((((((hi.mono (ok' := fun b => w.heap.size + 2 ≤ b) (fun b h _ => by simpa using h)).set (fun c h => (hne c h).1)).set (fun c h => (hne c h).2)).set (fun c h => (hne c h).2)).set (fun c h => (hne c h).2)).set (fun c h => (hne c h).2)).set (fun c h => (hne c h).2) |>.mono (fun b h _ => by omega)
  · exact (((((hB.setCell (by simp) _).setCell (by simp) _).setCell (by simp) _).setCell (by simp) _).setCell (by simp) _).setCell (by simp) _
def Clones2Post (w : World) (ps : List (Value × Msg)) (e : Ending) (w' : World) : Prop :=
  ∃ v' qs, e = .returned v' ∧ qs.map Prod.snd = ps.map Prod.snd ∧ w'.ownsRow w.heap.size 30 5 v' qs.length (flat encM qs) ∧ WordsOwn (fun b => w.heap.size ≤ b ∧ v'.ownBlock ≠ some b) w' qs ∧ Below w.heap.size w w'
set_option maxHeartbeats 2000000 in
theorem clones2_c {ok okw : Nat → Prop} {w : World} {v : Value} {ps : List (Value × Msg)} (hms : MsgsAt ok okw w v ps) (hsm : ps.length < 1000000) (hwl : ∀ p ∈ ps, p.2.words.length ≤ 17592186044416) : Calls Try.prog 37 #[v] w (Clones2Post w ps) := by
  obtain ⟨al, cl, rfl⟩ := hms.shape
  obtain ⟨-, hl1, hm1, hget⟩ := hms.get
  replace hget := hid hget
  replace hwl := hid hwl
  clear hms
  go_enter Try.func37, Try.ntmps37
  go_wp2
  go_loopg [8, 3] ps.length (fun g i uo wr => ∃ (k : Nat) (vo : Value) (qs : List (Value × Msg)), k ≤ ps.length ∧ g = ps.length - k ∧ i = .int .i64 k ∧ vo = uo ∧ qs.map Prod.snd = (ps.take k).map Prod.snd ∧ wr.ownsRow w.heap.size 30 5 vo qs.length (flat encM qs) ∧ WordsOwn (fun b => w.heap.size ≤ b ∧ vo.ownBlock ≠ some b) wr qs ∧ Below w.heap.size w wr)
  case atStart => exact ⟨0, _, [], Nat.zero_le _, rfl, rfl, rfl, rfl, World.ownsRow_nil _ _ _ _, WordsOwn.nil _ _, Below.refl _ _⟩
  case round =>
    obtain ⟨k, vo, qs, hk, hgk, rfl, rfl, hq, ho, hw, hb⟩ := hrel
    by_cases hlt : k < ps.length
    · obtain ⟨ga, oa, rfl, -, hga, x0, x1, x2, x3, x4, hw1⟩ := hget.out k hlt
      have x0 := (hb.cell (p := ⟨ga, oa + k * 5, none⟩) hga).trans x0
      have x1 := (hb.cell (p := ⟨ga, oa + k * 5 + 1, none⟩) hga).trans x1
      have x2 := (hb.cell (p := ⟨ga, oa + k * 5 + 2, none⟩) hga).trans x2
      have x3 := (hb.cell (p := ⟨ga, oa + k * 5 + 3, none⟩) hga).trans x3
      have x4 := (hb.cell (p := ⟨ga, oa + k * 5 + 4, none⟩) hga).trans x4
      have hw1 := hw1.below hb
      have hwk := hwl.out _ (List.getElem_mem hlt)
      have hql : qs.length = k := by have := congrArg List.length hq; simp at this; omega
      have hq1 : ∀ sv, (qs ++ [(sv, ps[k].2)]).map Prod.snd = (ps.take (k + 1)).map Prod.snd := fun sv => by rw [List.take_succ_eq_append_getElem hlt, List.map_append, List.map_append, hq]; rfl
      obtain ⟨as1, cs1, hs1⟩ := hw1.shape
      rw [hs1] at x0 hw1
      clear hs1
      generalize ps[k].2 = m at x0 x1 x2 x3 x4 hw1 hwk hq1
      obtain ⟨ao, co, rfl⟩ := own_shape ho
      have hbs := hb.size
      have hb1 := (Below.refl wr.heap.size wr).alloc (Nat.le_refl _) (.cells #[.slice as1 m.words.length cs1, .int .i64 m.lane, .int .i64 m.stamp, .int .i64 m.late, .int .i64 m.seq] 30)
      have hcl : Calls Try.prog 34 #[.agg #[.slice as1 m.words.length cs1, .int .i64 m.lane, .int .i64 m.stamp, .int .i64 m.late, .int .i64 m.seq]] (wr.alloc (.cells #[.slice as1 m.words.length cs1, .int .i64 m.lane, .int .i64 m.stamp, .int .i64 m.late, .int .i64 m.seq] 30)) fun e w' => ∃ v', e = .returned (.agg #[v', .int .i64 m.lane, .int .i64 m.stamp, .int .i64 m.late, .int .i64 m.seq]) ∧ IntsOwn (fun b => (wr.alloc (.cells #[.slice as1 m.words.length cs1, .int .i64 m.lane, .int .i64 m.stamp, .int .i64 m.late, .int .i64 m.seq] 30)).heap.size ≤ b) w' v' m.words ∧ Below (wr.alloc (.cells #[.slice as1 m.words.length cs1, .int .i64 m.lane, .int .i64 m.stamp, .int .i64 m.late, .int .i64 m.seq] 30)).heap.size (wr.alloc (.cells #[.slice as1 m.words.length cs1, .int .i64 m.lane, .int .i64 m.stamp, .int .i64 m.late, .int .i64 m.seq] 30)) w'   := mclone2_c (p := (.slice as1 m.words.length cs1, m)) (hw1.below hb1) hwk
      clear hw1
      have hcl := hid hcl
      have hb := hid hb
      have hb1 := hid hb1
      have ho := hid ho
      have hw := hid hw
      have hq1 := hid hq1
      replace hq := hid hq
      replace hql := hid hql
      go_wp2_with (first | (go_at_call 34; (with_reducible refine (hcl.out).mono ?_); rintro e w2 ⟨v', rfl, hi2, hb2⟩; obtain ⟨av, cv, rfl⟩ := hi2.shape; have hz2 := hb2.size; have hb12 := hid (Below.next hb1.out hb2 (by simp)); have hi2 := hid hi2; clear hb2) | (at_builtin; (refine wpList_push2 rfl (.tmp 12) (.tmp 15) 38 rfl elMsg (v := .slice ao qs.length co) rfl ((own_of ho.out (fun b e => hb12.out.block b (own_lt ho.out e))).alloc _) (by simp at hz2 ⊢; omega) rfl (news := encM (.slice av m.words.length cv, m)) rfl (heap_at _ _ _ (by simp)) (by simp [encM, Value.oneCell']) (by omega) (by have := hql.out; unfold maxLen; omega) (by have := hql.out; omega) ?_; intro g' cap' w5 hown5 hg5 hor5 hlt5; have hB5 := hid (((Below.next hb.out hb12.out hbs).alloc (by simp at hz2 ⊢; omega) _).grown hg5 (by simp at hz2 ⊢; omega) (fun c hc => own_block_ge ho.out c hc)); have hown5 := hid hown5; have hg5 := hid hg5; have hor5 := hid hor5)))
      have hlt2 : w2.heap.size < (w2.alloc (.cells #[.slice av m.words.length cv, .int .i64 m.lane, .int .i64 m.stamp, .int .i64 m.late, .int .i64 m.seq] 30)).heap.size := by simp
      have hwz : wr.heap.size + 1 ≤ w2.heap.size := by simpa using hz2
      have hWq : WordsOwn (fun b => w.heap.size ≤ b ∧ (Value.slice (some ⟨g', 0, none⟩) (qs.length + 1) cap').ownBlock ≠ some b) w5 (qs ++ [(.slice av m.words.length cv, m)]) := by
        refine WordsOwn.snoc ?_ ?_
        · have h1 := hw.out.below (hb12.out.alloc (by omega) (.cells #[.slice av m.words.length cv, .int .i64 m.lane, .int .i64 m.stamp, .int .i64 m.late, .int .i64 m.seq] 30))
          refine (h1.kept (w' := w5) hg5.out.size (fun b hb' hlt => hg5.out.block b hlt (fun e => hb'.2 e.symm))).mono' (fun b hb' hlt => ⟨hb'.1, fun e => ?_⟩) hw.out
          have e : g' = b := by simpa [Value.ownBlock] using e
          rcases hor5.out with e2 | e2
          · exact hb'.2 (e ▸ e2)
          · omega
        · have h1 : IntsOwn (fun b => wr.heap.size + 1 ≤ b ∧ b < w2.heap.size) w2 (.slice av m.words.length cv) m.words := hi2.out.mono (fun b h h' => ⟨by simpa using h, h'⟩)
          have h2 := h1.below ((Below.refl w2.heap.size w2).alloc (Nat.le_refl _) (.cells #[.slice av m.words.length cv, .int .i64 m.lane, .int .i64 m.stamp, .int .i64 m.late, .int .i64 m.seq] 30))
          refine (h2.kept (w' := w5) hg5.out.size (fun b hb' hlt => hg5.out.block b hlt (fun e => by have := own_lt ho.out e.symm; omega))).mono (fun b hb' _ => ⟨by omega, fun e => ?_⟩)
          have e : g' = b := by simpa [Value.ownBlock] using e
          rcases hor5.out with e2 | e2
          · have := own_lt ho.out e2; omega
          · omega
      have hWq := hid hWq
      go_roundg (ps.length - (k + 1))
      case rel => exact ⟨k + 1, _, qs ++ [(.slice av m.words.length cv, m)], by omega, rfl, by go_num, rfl, hq1.out _, by rw [List.length_append, flat_append, flat_single]; exact hown5.out, hWq.out, hB5.out⟩
      case measure => omega
    · obtain rfl : k = ps.length := by omega
      rw [List.take_length] at hq
      obtain ⟨ao, co, rfl⟩ := own_shape ho
      have hfin := hid (show Clones2Post w ps _ _ from ⟨_, qs, rfl, hq, ho, hw, hb⟩)
      clear ho hw hb hq
      go_wp2
      go_ret
      exact hfin.out
section
variable {w w' : World} {M : Nat → Prop} {lb : Nat} {ln pl : Int} {lv : Value} {ps : List (Value × Msg)} {ms : List Msg}
/-- Copies of all, in memory of their own. -/
def All2Post (w : World) (ms : List Msg) (e : Ending) (w' : World) : Prop :=
  ∃ v' qs, e = .returned v' ∧ qs.map Prod.snd = ms ∧ w'.ownsRow w.heap.size 30 5 v' qs.length (flat encM qs) ∧ WordsOwn (fun b => w.heap.size ≤ b ∧ v'.ownBlock ≠ some b) w' qs ∧ Below w.heap.size w w'
theorem all2_c (h : LanesM w M lb ln pl ms) : Calls Try.prog 17 #[.pointer (some ⟨lb, 0, none⟩)] w (All2Post w (sortM ms)) := by
  obtain ⟨lv, ps, rfl, h⟩ := h
  obtain ⟨c0, c1, c2, f2, hl⟩ := h.cells
  have hso := sorted_c h.msgs (by have := h.len; omega) (.inl rfl)
  have hfin : Hid (∀ (w1 w2 : World) v' qs, Below w.heap.size w w1 → qs.map Prod.snd = (sortL laneOf ps).map Prod.snd → w2.ownsRow w1.heap.size 30 5 v' qs.length (flat encM qs) → WordsOwn (fun b => w1.heap.size ≤ b ∧ v'.ownBlock ≠ some b) w2 qs → Below w1.heap.size w1 w2 → All2Post w (sortM (ps.map Prod.snd)) (.returned v') w2) := hid fun w1 w2 v' qs hb hq ho hw hb2 =>
    ⟨v', qs, rfl, by rw [hq, sort_snd], own_mono ho hb.size, hw.mono (fun b hb' _ => ⟨Nat.le_trans hb.size hb'.1, hb'.2⟩), Below.next hb hb2 hb.size⟩
  have hlen := hid (show (sortL laneOf ps).length < 1000000 by rw [sortL_len]; have := h.len; omega)
  have hsh := hid (show ∀ p ∈ sortL laneOf ps, p.2.words.length ≤ 17592186044416 from fun p hp => h.short p ((sortL_mem _ _).1 hp))
  obtain ⟨al, cl, rfl⟩ := own_shape h.own
  replace h := hid h
  replace hso := hid hso
  go_enter Try.func17, Try.ntmps17
  go_wp2_with (first | (go_at_call 38; (with_reducible refine (hso.out).mono ?_); rintro e w1 ⟨v1, rfl, hm1, hb1⟩; obtain ⟨a1, c1', rfl⟩ := hm1.shape; replace hm1 := hid hm1; replace hb1 := hid hb1) | (go_at_call 37; (with_reducible refine (clones2_c hm1.out hlen.out hsh.out).mono ?_); rintro e w2 ⟨v2, qs, rfl, hq2, ho2, hw2, hb2⟩; obtain ⟨a2, c2', rfl⟩ := own_shape ho2; have hf := hid (hfin.out _ _ _ _ hb1.out hq2 ho2 hw2 hb2); clear hq2 ho2 hw2 hb2))
  go_ret
  exact hf.out
end
end Go.Proofs.Ytbbhhjoohfkanaa.Lw
