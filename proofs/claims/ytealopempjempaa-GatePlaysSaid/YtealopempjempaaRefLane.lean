/- DERIVED. The walks over the reference's lanes: New, Of, Room, Sweep. -/
import Derived.Test.YtealopempjempaaLaneH
import Derived.Test.YtealopempjempaaRefMsg
namespace Go.Proofs.Ytealopempjempaa.Rl
set_option linter.unusedVariables false
set_option linter.unusedSimpArgs false
open Go.RowKit Go.Proofs.Ytealopempjempaa.K Go.Proofs.Ytealopempjempaa.Sp Go.Proofs.Ytealopempjempaa.Lb Go.Proofs.Ytealopempjempaa.So Go.Proofs.Ytealopempjempaa.La
/-- ok, and all new blocks. -/
def orNew (ok : Nat → Prop) (w : World) : Nat → Prop := fun b => ok b ∨ w.heap.size ≤ b
theorem new_c (w : World) (lanes places : Int) : Calls Try.prog 55 #[.int .i64 lanes, .int .i64 places] w fun e w' => e = .returned (.agg #[.int .i64 (lnT lanes), .int .i64 (plT places), .slice none 0 0]) ∧ Below w.heap.size w w' := by
  have h1 := minTwo
  have h2 := maxTwo
  go_enter Try.func55, Try.ntmps55
  go_wp2
  refine bodyPost_ret (v := .agg #[.int .i64 (lnT lanes), .int .i64 (plT places), .slice none 0 0]) (by simp [results, Try.results55, go_sem, lnT, plT]) rfl ⟨rfl, ?_⟩
  exact (Below.refl _ _).alloc (Nat.le_refl _) _
section
variable {w w' : World} {ok : Nat → Prop} {ln pl : Int} {v : Value} {ps : List (Value × Msg)} {ms : List Msg}
def OfPost (w : World) (okw : Nat → Prop) (ps : List (Value × Msg)) (e : Ending) (w' : World) : Prop := ∃ v', e = .returned v' ∧ MsgsAt (fun b => w.heap.size ≤ b) okw w' v' ps ∧ Below w.heap.size w w'
set_option maxHeartbeats 1000000 in
theorem of_c {okw : Nat → Prop} (h : MsgsAt ok okw w v ps) (hsm : ps.length < 1000000) (q : Int) : Calls Try.prog 76 #[.agg #[.int .i64 ln, .int .i64 pl, v], .int .i64 q] w (OfPost w okw (ps.filter (fun p => p.2.lane == q))) := by
  obtain ⟨ao, cap, rfl⟩ := h.shape
  have hbA := (Below.refl w.heap.size w).alloc (Nat.le_refl _) (.cells #[.int .i64 ln, .int .i64 pl, .slice ao ps.length cap] 56)
  have hpA := pts.newA w #[.int .i64 ln, .int .i64 pl, .slice ao ps.length cap] 56
  have hA := h.below hbA
  obtain ⟨-, hc1, hc2, -⟩ := h.get
  have hwo := hid h.words
  have hfin : Hid (∀ (W : World) (w2 : World) (vo : Value) (la : List (Value × Msg)), Below w.heap.size w W → la = ps.filter (fun p => p.2.lane == q) → Two encM encM W.heap.size W w2 37 37 5 5 vo (.slice none 0 0) la ([] : List (Value × Msg)) → OfPost w okw (ps.filter (fun p => p.2.lane == q)) (.returned vo) w2) := hid fun W w2 vo la hb hla hT => by
    subst hla
    have hB := Below.next hb hT.below hb.size
    exact ⟨vo, rfl, (MsgsAt.of_own hT.a ((hwo.out.sub (fun p hp => (List.mem_filter.1 hp).1)).below hB)).mono (fun b h _ => Nat.le_trans hb.size h) (fun b h _ => h), hB⟩
  have hstart := Two.start (α := Value × Msg) (β := Value × Msg) encM encM 37 37 5 5 (Below.refl (w.alloc (.cells #[.int .i64 ln, .int .i64 pl, .slice ao ps.length cap] 56)).heap.size (w.alloc (.cells #[.int .i64 ln, .int .i64 pl, .slice ao ps.length cap] 56))) (Nat.le_refl _)
  replace h := hid h
  go_enter Try.func76, Try.ntmps76
  go_wp2
  generalize w.alloc (.cells #[.int .i64 ln, .int .i64 pl, .slice ao ps.length cap] 56) = W at hbA hpA hA hstart ⊢
  generalize hB0 : w.heap.size = b0 at hpA ⊢
  replace hB0 := hid hB0
  replace hstart := hid hstart
  replace hA := hid hA
  replace hbA := hid hbA
  have hbl := hpA.lt
  replace hpA := hid hpA
  go_loopg [6, 5] ps.length (fun g i uo wr => ∃ (k : Nat) (vo : Value), k ≤ ps.length ∧ g = ps.length - k ∧ i = .int .i64 k ∧ vo = uo ∧ Two encM encM W.heap.size W wr 37 37 5 5 vo (.slice none 0 0) ((ps.take k).filter (fun p => p.2.lane == q)) ([] : List (Value × Msg)))
  case atStart => exact ⟨0, _, Nat.zero_le _, rfl, rfl, rfl, hstart.out⟩
  case round =>
    obtain ⟨k, vo, hk, hgk, rfl, rfl, hT⟩ := hrel
    have hp2 := hpA.out.below hT.below
    have z2 := hp2.cell 2
    have zl := hp2.lt
    simp only [List.getElem?_cons_zero, List.getElem?_cons_succ] at z2
    clear hp2
    by_cases hlt : k < ps.length
    · obtain ⟨g, o, a, c, rfl, -, hpe, hat, -⟩ := (hA.out.below hT.below).at5 hlt
      have hf1 := filter_take (fun p : Value × Msg => p.2.lane == q) hlt
      have hlo := filter_take_le ps k (fun p : Value × Msg => p.2.lane == q)
      rw [hpe] at hf1
      clear hpe
      generalize (ps.take k).filter (fun p => p.2.lane == q) = lo at hT hf1 hlo
      generalize ps[k].2 = m at hat hf1
      obtain ⟨⟨ao2, co2, rfl⟩, -⟩ := hT.shapes
      obtain ⟨x0, x1, x2, x3, x4, hxl⟩ := hat
      replace hT := hid hT
      by_cases he : m.lane = q
      · have hq : (m.lane == q) = true := by simpa using he
        have hf1 := hid (show (ps.take (k + 1)).filter (fun p => p.2.lane == q) = lo ++ [(.slice a m.words.length c, m)] by rw [hf1]; simp [he])
        replace he := hid he
        go_wp2_with (first | (at_builtin; (refine Two.wpA elMsg (hT.out.alloc _) rfl (.tmp 22) (.tmp 28) rfl rfl (y := (.slice a m.words.length c, m)) rfl (heap_at _ _ _ (by simp)) rfl (by simp [encM, Value.oneCell']) (by omega) (by omega) ?_; intro g' cap' w6 hT6 hz6; have hT6 := hid hT6)))
        go_roundg (ps.length - (k + 1))
        case rel => exact ⟨k + 1, _, by omega, rfl, by go_num, rfl, by rw [hf1.out]; exact hT6.out⟩
        case measure => omega
      · have hq : (m.lane == q) = false := by simpa using he
        have hf1 := hid (show (ps.take (k + 1)).filter (fun p => p.2.lane == q) = lo by rw [hf1]; simp [he])
        replace he := hid he
        go_wp2
        go_roundg (ps.length - (k + 1))
        case rel => exact ⟨k + 1, _, by omega, rfl, by go_num, rfl, by rw [hf1.out]; exact hT.out⟩
        case measure => omega
    · obtain rfl : k = ps.length := by omega
      rw [List.take_length] at hT
      obtain ⟨⟨ao2, co2, rfl⟩, -⟩ := hT.shapes
      have hf := hid (hfin.out _ _ _ _ hbA.out rfl hT)
      clear hT
      go_wp2
      go_ret
      exact hf.out
def RoomP (w : World) (r : Int) (e : Ending) (w' : World) : Prop := e = .returned (.int .i64 r) ∧ Below w.heap.size w w'
set_option maxHeartbeats 1000000 in
theorem room_c {okw : Nat → Prop} (h : MsgsAt ok okw w v ps) (hsm : ps.length < 1000) (hl : 1 ≤ ln ∧ ln ≤ 3) (hp : 1 ≤ pl ∧ pl ≤ 8) (q : Int) : Calls Try.prog 56 #[.agg #[.int .i64 ln, .int .i64 pl, v], .int .i64 q] w (RoomP w (roomT ln pl (ps.map Prod.snd) q)) := by
  obtain ⟨ao, cap, rfl⟩ := h.shape
  have hbA := (Below.refl w.heap.size w).alloc (Nat.le_refl _) (.cells #[.int .i64 ln, .int .i64 pl, .slice ao ps.length cap] 56)
  have hpA := pts.newA w #[.int .i64 ln, .int .i64 pl, .slice ao ps.length cap] 56
  have hlen : ((ofM q (ps.map Prod.snd)).length : Int) = ((ps.filter (fun p => p.2.lane == q)).length : Nat) := by
    unfold ofM; rw [List.filter_map, List.length_map]; rfl
  have hle : (ps.filter (fun p => p.2.lane == q)).length ≤ 1000 := Nat.le_trans (List.length_filter_le _ _) (by omega)
  have hr : Hid (roomT ln pl (ps.map Prod.snd) q = if isT ln q then pl - ((ps.filter (fun p => p.2.lane == q)).length : Nat) else 0) := hid (by unfold roomT; rw [hlen])
  replace hlen := hid hlen
  by_cases h0 : 0 ≤ q ∧ q < ln
  · have hof := of_c (ln := ln) (pl := pl) ((h.below hbA).below (Below.refl _ _).drew) (by omega) q
    have hi : isT ln q = true := by unfold isT; simpa using h0
    rw [hi] at hr
    have d1 : decide (q < 0) = false := by simp; omega
    have d2 : decide (ln ≤ q) = false := by simp; omega
    have hwr : IntKind.i64.wrap (pl - ((ps.filter (fun p => p.2.lane == q)).length : Nat)) = pl - ((ps.filter (fun p => p.2.lane == q)).length : Nat) := IntWalk.i64_in _ (by omega)
    generalize (ps.filter (fun p => p.2.lane == q)) = fs at hof hr hwr hle
    replace h := hid h
    replace hi := hid hi
    replace h0 := hid h0
    have z0 := hpA.cell 0
    have z1 := hpA.cell 1
    have z2 := hpA.cell 2
    have zl := hpA.lt
    simp only [List.getElem?_cons_zero, List.getElem?_cons_succ] at z0 z1 z2
    go_enter Try.func56, Try.ntmps56
    go_upto_region 3 with fail
    generalize w.alloc (.cells #[.int .i64 ln, .int .i64 pl, .slice ao ps.length cap] 56) = W at hbA hpA hof z0 z1 z2 zl ⊢
    generalize hB0 : w.heap.size = b0 at hpA z0 z1 z2 zl ⊢
    replace hB0 := hid hB0
    replace hof := hid hof
    replace hbA := hid hbA
    replace hpA := hid hpA
    go_region_held3 (fun W => W.cell? ⟨b0, 0, none⟩ = some (.int .i64 ln) ∧ W.cell? ⟨b0, 1, none⟩ = some (.int .i64 pl) ∧ W.cell? ⟨b0, 2, none⟩ = some (.slice ao ps.length cap))
      (first | go_keep | ((try dsimp only); (repeat' apply And.intro) <;> go_keep))
      (first | (go_at_call 76; (with_reducible refine (hof.out).mono ?_); rintro e w2 ⟨v2, rfl, hm2, hb2⟩; obtain ⟨a2, k2, rfl⟩ := hm2.shape; replace hb2 := Below.ofDrew hb2; have hp2 := hpA.out.below hb2; have y0 := hp2.cell 0; have y1 := hp2.cell 1; have y2 := hp2.cell 2; simp only [List.getElem?_cons_zero, List.getElem?_cons_succ] at y0 y1 y2; replace hm2 := hid hm2; replace hb2 := hid hb2; clear hp2))
    go_wp2
    go_ret
    exact ⟨by rw [hr.out] <;> rfl, Below.next hbA.out hb2.out hbA.out.size⟩
  · have hi : isT ln q = false := by unfold isT; simpa using h0
    rw [hi] at hr
    replace h := hid h
    replace hi := hid hi
    by_cases hq0 : q < 0
    · replace h0 := hid h0
      go_enter Try.func56, Try.ntmps56
      go_wp2
      go_ret
      exact ⟨by rw [hr.out] <;> rfl, hbA⟩
    · have d2 : decide (ln ≤ q) = true := by simp; omega
      replace h0 := hid h0
      go_enter Try.func56, Try.ntmps56
      go_wp2
      go_ret
      exact ⟨by rw [hr.out] <;> rfl, hbA⟩
end
end Go.Proofs.Ytealopempjempaa.Rl
