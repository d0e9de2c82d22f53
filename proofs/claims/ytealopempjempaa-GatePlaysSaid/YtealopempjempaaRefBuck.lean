/- DERIVED. The walks over the reference's bucket: Come, Take. No statement is proved here. -/
import Derived.Test.YtealopempjempaaMostW
namespace Go.Proofs.Ytealopempjempaa.Gt
set_option linter.unusedVariables false
set_option linter.unusedSimpArgs false
open Go.RowKit Go.Proofs.Ytealopempjempaa.K Go.Proofs.Ytealopempjempaa.Lb Go.Proofs.Ytealopempjempaa.La Go.Proofs.Ytealopempjempaa.Cf
/-- Cells stored one behind the other. -/
def setN (w : World) (b : Nat) : Nat → List Value → World
  | _, [] => w
  | o, v :: t => setN (w.setCell ⟨b, o, none⟩ v) b (o + 1) t
theorem setN_own (b : Nat) : ∀ (vs : List Value) (o : Nat) (w : World), Chg (fun x => x = b) w (setN w b o vs)
  | [], _, w => Chg.refl _ w
  | v :: t, o, w => (Chg.setB (M := fun x => x = b) (Chg.refl _ w) rfl).trans (setN_own b t (o + 1) _) (fun i hi => .inl hi)
theorem setN_pts {b : Nat} {T : TypeId} : ∀ (vs : List Value) (pre cs : List Value) (w : World), pts w b (pre ++ cs) T → cs.length = vs.length → pts (setN w b pre.length vs) b (pre ++ vs) T
  | [], pre, cs, w, h, hl => by
    have : cs = [] := List.eq_nil_of_length_eq_zero hl
    subst this; exact h
  | v :: t, pre, cs, w, h, hl => by
    match cs, hl with
    | c :: cs', hl =>
      have h1 := h.set pre.length v
      have e : (pre ++ c :: cs').set pre.length v = (pre ++ [v]) ++ cs' := by simp [List.set_append_right]
      rw [e] at h1
      have h2 := setN_pts t (pre ++ [v]) cs' _ h1 (by simpa using hl)
      rw [List.length_append, List.length_singleton, List.append_assoc] at h2
      exact h2
theorem setN_pts0 {w : World} {b : Nat} {T : TypeId} {cs : List Value} (h : pts w b cs T) (vs : List Value) (hl : cs.length = vs.length) : pts (setN w b 0 vs) b vs T := setN_pts vs [] cs w h hl
theorem setN_below {n : Nat} {w0 : World} (b : Nat) (hb : n ≤ b) : ∀ (vs : List Value) (o : Nat) (w : World), Below n w0 w → Below n w0 (setN w b o vs)
  | [], _, _, h => h
  | v :: t, o, w, h => setN_below b hb t (o + 1) _ (h.setCell (p := ⟨b, o, none⟩) hb v)
theorem setN_other {b c : Nat} (hc : c ≠ b) {T : TypeId} {cs : List Value} : ∀ (vs : List Value) (o : Nat) (w : World), pts w c cs T → pts (setN w b o vs) c cs T
  | [], _, _, h => h
  | v :: t, o, w, h => setN_other hc t (o + 1) _ (h.set_ne (a := ⟨b, o, none⟩) (fun e => hc e) v)
def aggB (b : Bk) : Value := .agg #[.int .i64 b.rate, .int .i64 b.cap, .int .i64 b.tokens, .int .i64 b.round]
theorem stepB_snoc (rate cap : Int) : ∀ (j : Nat) (t : Int), stepB rate cap (j + 1) t = min (stepB rate cap j t + rate) cap
  | 0, t => rfl
  | j + 1, t => by rw [stepB, stepB_snoc rate cap j]; rfl
/-- What the reference reckons round by round, at most 64 rounds, is what the program reckons at once. -/
theorem come_eq {b : Bk} (h : b.Ok) (r : Int) {j : Nat} (hj : (j = 64 ∧ b.round + 64 ≤ cutT r) ∨ (j ≤ 64 ∧ ((j : Int) = cutT r - b.round ∨ (j = 0 ∧ cutT r ≤ b.round)))) : stepB b.rate b.cap j b.tokens = (comeB b r).tokens ∧ max b.round (cutT r) = (comeB b r).round := by
  obtain ⟨br, bc, bt, bd⟩ := b
  obtain ⟨h1, h2, h3, h4⟩ := h
  simp only at h1 h2 h3 h4 hj ⊢
  have hc := cutT_in r
  have hsub : subT r bd = max 0 (cutT r - bd) := by unfold subT; rw [cutT_id h4.1 h4.2]; unfold cutT at hc ⊢; omega
  have hrd : max bd (cutT r) = addT bd (subT r bd) := by
    rw [hsub]; unfold addT; rw [cutT_id h4.1 h4.2, cutT_id (show 0 ≤ max 0 (cutT r - bd) by omega) (by omega)]; omega
  refine ⟨?_, by unfold comeB; exact hrd⟩
  rw [stepB_eq h1.1 j bt h3.2]
  unfold comeB
  simp only
  rw [hsub]
  have hm : mulT br (max 0 (cutT r - bd)) = min (br * max 0 (cutT r - bd)) 4611686018427387904 := by
    unfold mulT; rw [cutT_id h1.1 (by omega), cutT_id (show 0 ≤ max 0 (cutT r - bd) by omega) (by omega)]
  have hp : 0 ≤ br * max 0 (cutT r - bd) := Int.mul_nonneg h1.1 (by omega)
  have ha : addT bt (mulT br (max 0 (cutT r - bd))) = min (bt + mulT br (max 0 (cutT r - bd))) 4611686018427387904 := by
    unfold addT; rw [cutT_id h3.1 (by omega), cutT_id (show 0 ≤ mulT br (max 0 (cutT r - bd)) by rw [hm]; omega) (by rw [hm]; omega)]
  rw [ha, hm]
  rcases hj with ⟨rfl, hj⟩ | ⟨hj64, hj | ⟨rfl, hj⟩⟩
  · rcases (show br = 0 ∨ 1 ≤ br by omega) with rfl | hb1
    · simp only [Int.zero_mul]; omega
    · have h5 : br * 64 ≤ br * max 0 (cutT r - bd) := Int.mul_le_mul_of_nonneg_left (by omega) h1.1
      have h6 : 64 ≤ br * ((64 : Nat) : Int) := by simpa using (show 64 ≤ br * 64 by omega)
      have h7 : br * ((64 : Nat) : Int) = br * 64 := by simp
      omega
  · have e : max 0 (cutT r - bd) = (j : Int) := by omega
    rw [e] at hp ⊢
    have h5 : br * (j : Int) ≤ 64 * 64 := Int.mul_le_mul h1.2 (by omega) (by omega) (by omega)
    omega
  · have e : max 0 (cutT r - bd) = 0 := by omega
    rw [e]; simp only [Int.mul_zero]
    simp; omega
theorem stepB_in {rate cap : Int} (hr : 0 ≤ rate) : ∀ (j : Nat) (t : Int), 0 ≤ t ∧ t ≤ cap → 0 ≤ stepB rate cap j t ∧ stepB rate cap j t ≤ cap
  | 0, t, h => h
  | j + 1, t, h => by rw [stepB]; exact stepB_in hr j _ (by omega)
set_option maxHeartbeats 1000000 in
theorem rcome_c (w : World) {b : Bk} (hok : b.Ok) (r : Int) : Calls Try.prog 77 #[aggB b, .int .i64 r] w fun e w' => e = .returned (aggB (comeB b r)) ∧ Below w.heap.size w w' := by
  have hmin := minTwo
  have hmax := maxTwo
  have hce := hid (fun j hj => come_eq hok r (j := j) hj)
  have hcr := cutT_in r
  obtain ⟨br, bc, bt, bd⟩ := b
  obtain ⟨h1, h2, h3, h4⟩ := hok
  unfold aggB
  simp only at h1 h2 h3 h4 hce ⊢
  obtain ⟨to_, hto'⟩ : ∃ to_, cutT r = to_ := ⟨_, rfl⟩
  have hto := hid hto'
  rw [hto'] at hcr
  clear hto'
  have hbl := hid ((Below.refl w.heap.size w).alloc (Nat.le_refl _) (.cells #[.int .i64 br, .int .i64 bc, .int .i64 bt, .int .i64 bd] 58))
  go_enter Try.func77, Try.ntmps77
  go_upto_block 0 with (first | (go_at_call 58; (with_reducible refine (rcut_c _ r).mono ?_); rw [hto.out]; rintro e w' ⟨rfl, rfl⟩))
  have hp0 := hid ((pts.newA w #[.int .i64 br, .int .i64 bc, .int .i64 bt, .int .i64 bd] 58).alloc (.cells #[.int .i64 0, .int .i64 0, .int .i64 0, .int .i64 0] 58))
  have hp1 := hid (show pts ((w.alloc (.cells #[.int .i64 br, .int .i64 bc, .int .i64 bt, .int .i64 bd] 58)).alloc (.cells #[.int .i64 0, .int .i64 0, .int .i64 0, .int .i64 0] 58)) (w.heap.size + 1) [.int .i64 0, .int .i64 0, .int .i64 0, .int .i64 0] 58 by simpa using pts.newA (w.alloc (.cells #[.int .i64 br, .int .i64 bc, .int .i64 bt, .int .i64 bd] 58)) #[.int .i64 0, .int .i64 0, .int .i64 0, .int .i64 0] 58)
  have hB1 := hid (hbl.out.alloc (by simp) (.cells #[.int .i64 0, .int .i64 0, .int .i64 0, .int .i64 0] 58))
  generalize (w.alloc (.cells #[.int .i64 br, .int .i64 bc, .int .i64 bt, .int .i64 bd] 58)).alloc (.cells #[.int .i64 0, .int .i64 0, .int .i64 0, .int .i64 0] 58) = W1 at hp0 hp1 hB1 ⊢
  obtain ⟨sb, hsb⟩ : ∃ sb, sb = w.heap.size := ⟨_, rfl⟩
  rw [← hsb] at hp0 hp1 ⊢
  replace hsb := hid hsb
  clear hbl
  go_cut [6] from 9 to 29 (fun sj wx => ∃ j : Nat, sj = .int .i64 j ∧ ((j = 64 ∧ bd + 64 ≤ to_) ∨ (j ≤ 64 ∧ ((j : Int) = to_ - bd ∨ (j = 0 ∧ to_ ≤ bd)))) ∧ pts wx sb [.int .i64 br, .int .i64 bc, .int .i64 (stepB br bc j bt), .int .i64 bd] 58 ∧ pts wx (sb + 1) [.int .i64 0, .int .i64 0, .int .i64 0, .int .i64 0] 58 ∧ Below w.heap.size w wx)
  case first =>
    go_wp2
    go_loopg [6] 64 (fun gg sj wr => ∃ j : Nat, j ≤ 64 ∧ gg = 64 - j ∧ sj = .int .i64 j ∧ (j = 0 ∨ bd + j ≤ to_) ∧ pts wr sb [.int .i64 br, .int .i64 bc, .int .i64 (stepB br bc j bt), .int .i64 bd] 58 ∧ pts wr (sb + 1) [.int .i64 0, .int .i64 0, .int .i64 0, .int .i64 0] 58 ∧ Below w.heap.size w wr)
    case atStart => exact ⟨0, by omega, by omega, rfl, .inl rfl, hp0.out, hp1.out, hB1.out⟩
    case round =>
      clear hp0 hp1 hB1
      obtain ⟨j, hj, hgg, rfl, hjt, hp0, hp1, hB⟩ := hrel
      have hs := stepB_in h1.1 j bt h3
      have hsn := hid (stepB_snoc br bc j bt)
      generalize hT' : stepB br bc j bt = T at hs hp0 hsn
      have hT := hid hT'
      clear hT'
      have x0 := hp0.cell 0
      have x1 := hp0.cell 1
      have x2 := hp0.cell 2
      have x3 := hp0.cell 3
      have xl := hp0.lt
      have xf := hp0.frozen 2
      simp only [List.getElem?_cons_zero, List.getElem?_cons_succ] at x0 x1 x2 x3
      have hp2 := hid (hp0.set 2 (.int .i64 (min (T + br) bc)))
      have hq2 := hid (hp1.set_ne (a := ⟨sb, 2, none⟩) (by simp) (.int .i64 (min (T + br) bc)))
      have hB2 := hid (hB.setCell (p := ⟨sb, 2, none⟩) (by have := hsb.out; simp only; omega) (.int .i64 (min (T + br) bc)))
      have hp0' := hid hp0
      have hp1' := hid hp1
      have hB' := hid hB
      clear hp0 hp1 hB
      by_cases hj64 : j < 64
      · have d1 : decide ((j : Int) < 64) = true := decide_eq_true (by omega)
        by_cases hlt : bd + (j : Int) < to_
        · have d2 : decide (bd + (j : Int) < to_) = true := decide_eq_true hlt
          go_wp2
          go_roundg (64 - (j + 1))
          case rel => exact ⟨j + 1, by omega, rfl, by go_num, .inr (by omega), by rw [hsn.out]; exact hp2.out, hq2.out, hB2.out⟩
          case measure => omega
        · have d2 : decide (bd + (j : Int) < to_) = false := decide_eq_false hlt
          go_wp2
          go_meet
          case rel => exact ⟨j, rfl, .inr ⟨by omega, by omega⟩, (by rw [hT.out]; exact hp0'.out), hp1'.out, hB'.out⟩
      · have d1 : decide ((j : Int) < 64) = false := decide_eq_false (by omega)
        obtain rfl : j = 64 := by omega
        go_wp2
        go_meet
        case rel => exact ⟨64, rfl, .inl ⟨rfl, by omega⟩, (by rw [hT.out]; exact hp0'.out), hp1'.out, hB'.out⟩
  case rest =>
    clear hp0 hp1 hB1
    obtain ⟨j, rfl, hj, hp0, hp1, hB⟩ := hcut
    have hce2 := hce.out j (by rw [hto.out]; exact hj)
    rw [hto.out] at hce2
    rw [hce2.1] at hp0
    have hrd := hid hce2.2
    clear hce hce2 hj
    have x0 := hp0.cell 0
    have x1 := hp0.cell 1
    have x2 := hp0.cell 2
    have x3 := hp0.cell 3
    have xl := hp0.lt
    have xf := hp0.frozen 3
    have y0 := hp1.cell 0
    have y1 := hp1.cell 1
    have y2 := hp1.cell 2
    have y3 := hp1.cell 3
    have yl := hp1.lt
    have yf := fun o => hp1.frozen o
    simp only [List.getElem?_cons_zero, List.getElem?_cons_succ] at x0 x1 x2 x3 y0 y1 y2 y3
    have hpf := hid ((((((hp1.set_ne (a := ⟨sb, 3, none⟩) (by simp) (.int .i64 (max bd to_))).set 0 (.int .i64 br)).set 1 (.int .i64 bc)).set 2 (.int .i64 (comeB ⟨br, bc, bt, bd⟩ r).tokens)).set 3 (.int .i64 (max bd to_))))
    have hfin := hid (show Below w.heap.size w (((((wc.setCell ⟨sb, 3, none⟩ (.int .i64 (max bd to_))).setCell ⟨sb + 1, 0, none⟩ (.int .i64 br)).setCell ⟨sb + 1, 1, none⟩ (.int .i64 bc)).setCell ⟨sb + 1, 2, none⟩ (.int .i64 (comeB ⟨br, bc, bt, bd⟩ r).tokens)).setCell ⟨sb + 1, 3, none⟩ (.int .i64 (max bd to_))) from by
      have h0 : w.heap.size ≤ sb := by have := hsb.out; omega
      have h0' : w.heap.size ≤ sb + 1 := by omega
      exact ((((hB.setCell (p := ⟨sb, 3, none⟩) h0 _).setCell (p := ⟨sb + 1, 0, none⟩) h0' _).setCell (p := ⟨sb + 1, 1, none⟩) h0' _).setCell (p := ⟨sb + 1, 2, none⟩) h0' _).setCell (p := ⟨sb + 1, 3, none⟩) h0' _)
    clear hB hp0 hp1
    generalize htk' : (comeB ⟨br, bc, bt, bd⟩ r).tokens = tk at x2 hfin hpf
    have htk := hid htk'
    clear htk'
    go_wp2
    generalize (((((wc.setCell ⟨sb, 3, none⟩ (.int .i64 (max bd to_))).setCell ⟨sb + 1, 0, none⟩ (.int .i64 br)).setCell ⟨sb + 1, 1, none⟩ (.int .i64 bc)).setCell ⟨sb + 1, 2, none⟩ (.int .i64 tk)).setCell ⟨sb + 1, 3, none⟩ (.int .i64 (max bd to_))) = wf at hpf hfin ⊢
    have z0 := hpf.out.cell 0
    have z1 := hpf.out.cell 1
    have z2 := hpf.out.cell 2
    have z3 := hpf.out.cell 3
    have zl := hpf.out.lt
    simp only [List.set, List.getElem?_cons_zero, List.getElem?_cons_succ] at z0 z1 z2 z3
    refine bodyPost_ret (v := .agg #[.int .i64 br, .int .i64 bc, .int .i64 tk, .int .i64 (max bd to_)]) (by simp [results, Try.results77, go_sem, z0, z1, z2, z3]) rfl ⟨?_, hfin.out⟩
    rw [htk.out, ← hrd.out]; rfl
def RTakePost (w : World) (b : Bk) (e : Ending) (w' : World) : Prop := e = .returned (.tuple #[aggB (if b.tokens = 0 then b else useB b), .bool (decide (b.tokens ≠ 0))]) ∧ Below w.heap.size w w'
set_option maxHeartbeats 1000000 in
theorem rbtake_c (w : World) {b : Bk} (hok : b.Ok) (r : Int) : Calls Try.prog 57 #[aggB b, .int .i64 r] w (RTakePost w (comeB b r)) := by
  have hc := hid (fun w => rcome_c w hok r)
  have ht := (comeB_ok hok r).t
  have hc64 := (comeB_ok hok r).c
  generalize comeB b r = b' at hc ht hc64
  clear hok
  obtain ⟨br, bc, bt, bd⟩ := b
  obtain ⟨br', bc', bt', bd'⟩ := b'
  unfold aggB at hc ⊢
  unfold RTakePost aggB
  simp only at hc ht hc64 ⊢
  go_enter Try.func57, Try.ntmps57
  go_upto_block 0 with fail
  have hp0 := hid ((pts.newA w #[.int .i64 br, .int .i64 bc, .int .i64 bt, .int .i64 bd] 58).alloc (.cells #[.int .i64 0, .int .i64 0, .int .i64 0, .int .i64 0] 58))
  have hp1 := hid (show pts ((w.alloc (.cells #[.int .i64 br, .int .i64 bc, .int .i64 bt, .int .i64 bd] 58)).alloc (.cells #[.int .i64 0, .int .i64 0, .int .i64 0, .int .i64 0] 58)) (w.heap.size + 1) [.int .i64 0, .int .i64 0, .int .i64 0, .int .i64 0] 58 by simpa using pts.newA (w.alloc (.cells #[.int .i64 br, .int .i64 bc, .int .i64 bt, .int .i64 bd] 58)) #[.int .i64 0, .int .i64 0, .int .i64 0, .int .i64 0] 58)
  have hB1 := hid (((Below.refl w.heap.size w).alloc (Nat.le_refl _) (.cells #[.int .i64 br, .int .i64 bc, .int .i64 bt, .int .i64 bd] 58)).alloc (by simp) (.cells #[.int .i64 0, .int .i64 0, .int .i64 0, .int .i64 0] 58))
  generalize (w.alloc (.cells #[.int .i64 br, .int .i64 bc, .int .i64 bt, .int .i64 bd] 58)).alloc (.cells #[.int .i64 0, .int .i64 0, .int .i64 0, .int .i64 0] 58) = W1 at hp0 hp1 hB1 ⊢
  obtain ⟨sb, hsb⟩ : ∃ sb, sb = w.heap.size := ⟨_, rfl⟩
  rw [← hsb] at hp0 hp1 ⊢
  replace hsb := hid hsb
  refine Calls.mono (hc.out W1) ?_
  rintro e w2 ⟨rfl, hb⟩
  have hp2 := hp0.out.below hb
  have hq2 := hp1.out.below hb
  have hB2 := Below.next hB1.out hb hB1.out.size
  clear hp0 hp1 hB1 hb hc
  have hs0 : w.heap.size ≤ sb := by have := hsb.out; omega
  have hs1 : w.heap.size ≤ sb + 1 := by omega
  have hp3 := hid (setN_pts0 hp2 [.int .i64 br', .int .i64 bc', .int .i64 bt', .int .i64 bd'] rfl)
  have hq3 := hid (setN_other (b := sb) (by omega) [.int .i64 br', .int .i64 bc', .int .i64 bt', .int .i64 bd'] 0 _ hq2)
  have hB3 := hid (setN_below sb hs0 [.int .i64 br', .int .i64 bc', .int .i64 bt', .int .i64 bd'] 0 _ hB2)
  have xl := hp2.lt
  have x0 := hp2.cell 0
  have x1 := hp2.cell 1
  have x2 := hp2.cell 2
  have x3 := hp2.cell 3
  have xf := fun o => hp2.frozen o
  simp only [List.getElem?_cons_zero, List.getElem?_cons_succ] at x0 x1 x2 x3
  clear hp2 hq2 hB2
  go_upto_region 2 with fail
  clear x0 x1 x2 x3 xl xf
  change Code.wp _ _ _ _ (setN w2 sb 0 [.int .i64 br', .int .i64 bc', .int .i64 bt', .int .i64 bd'])
  generalize setN w2 sb 0 [.int .i64 br', .int .i64 bc', .int .i64 bt', .int .i64 bd'] = w3 at hp3 hq3 hB3 ⊢
  by_cases h0 : bt' = 0
  · subst h0
    have x0 := hp3.out.cell 0
    have x1 := hp3.out.cell 1
    have x2 := hp3.out.cell 2
    have x3 := hp3.out.cell 3
    have xl := hp3.out.lt
    have xf := fun o => hp3.out.frozen o
    simp only [List.getElem?_cons_zero, List.getElem?_cons_succ] at x0 x1 x2 x3
    have y0 := hq3.out.cell 0
    have y1 := hq3.out.cell 1
    have y2 := hq3.out.cell 2
    have y3 := hq3.out.cell 3
    have yl := hq3.out.lt
    have yf := fun o => hq3.out.frozen o
    simp only [List.getElem?_cons_zero, List.getElem?_cons_succ] at y0 y1 y2 y3
    have hBf := hid (setN_below (sb + 1) hs1 [.int .i64 br', .int .i64 bc', .int .i64 0, .int .i64 bd'] 0 _ hB3.out)
    have hPf := hid (setN_pts0 hq3.out [.int .i64 br', .int .i64 bc', .int .i64 0, .int .i64 bd'] rfl)
    clear hp3 hq3 hB3
    go_wp2
    clear x0 x1 x2 x3 xl xf y0 y1 y2 y3 yl yf
    change bodyPost _ _ _ _ _ (setN w3 (sb + 1) 0 [.int .i64 br', .int .i64 bc', .int .i64 0, .int .i64 bd'])
    generalize setN w3 (sb + 1) 0 [.int .i64 br', .int .i64 bc', .int .i64 0, .int .i64 bd'] = wf at hBf hPf ⊢
    have z0 := hPf.out.cell 0
    have z1 := hPf.out.cell 1
    have z2 := hPf.out.cell 2
    have z3 := hPf.out.cell 3
    have zl := hPf.out.lt
    have zf := fun o => hPf.out.frozen o
    simp only [List.getElem?_cons_zero, List.getElem?_cons_succ] at z0 z1 z2 z3
    refine bodyPost_ret (v := .tuple #[.agg #[.int .i64 br', .int .i64 bc', .int .i64 0, .int .i64 bd'], .bool false]) (by simp [results, Try.results57, go_sem, z0, z1, z2, z3]) rfl ⟨by simp, hBf.out⟩
  · have e0 : (bt' == 0) = false := by simpa using h0
    have hp4 := hid (hp3.out.set 2 (.int .i64 (bt' - 1)))
    have hq4 := hid (hq3.out.set_ne (a := ⟨sb, 2, none⟩) (by simp) (.int .i64 (bt' - 1)))
    have hB4 := hid (hB3.out.setCell (p := ⟨sb, 2, none⟩) hs0 (.int .i64 (bt' - 1)))
    have x0 := hp3.out.cell 0
    have x1 := hp3.out.cell 1
    have x2 := hp3.out.cell 2
    have x3 := hp3.out.cell 3
    have xl := hp3.out.lt
    have xf := fun o => hp3.out.frozen o
    simp only [List.getElem?_cons_zero, List.getElem?_cons_succ] at x0 x1 x2 x3
    go_upto_region 5 with fail
    clear x0 x1 x2 x3 xl xf
    simp only [List.set] at hp4
    generalize w3.setCell ⟨sb, 2, none⟩ (.int .i64 (bt' - 1)) = w4 at hp4 hq4 hB4 ⊢
    have x0 := hp4.out.cell 0
    have x1 := hp4.out.cell 1
    have x2 := hp4.out.cell 2
    have x3 := hp4.out.cell 3
    have xl := hp4.out.lt
    have xf := fun o => hp4.out.frozen o
    simp only [List.getElem?_cons_zero, List.getElem?_cons_succ] at x0 x1 x2 x3
    have y0 := hq4.out.cell 0
    have y1 := hq4.out.cell 1
    have y2 := hq4.out.cell 2
    have y3 := hq4.out.cell 3
    have yl := hq4.out.lt
    have yf := fun o => hq4.out.frozen o
    simp only [List.getElem?_cons_zero, List.getElem?_cons_succ] at y0 y1 y2 y3
    have hBf := hid (setN_below (sb + 1) hs1 [.int .i64 br', .int .i64 bc', .int .i64 (bt' - 1), .int .i64 bd'] 0 _ hB4.out)
    have hPf := hid (setN_pts0 hq4.out [.int .i64 br', .int .i64 bc', .int .i64 (bt' - 1), .int .i64 bd'] rfl)
    clear hp3 hq3 hB3 hp4 hq4 hB4
    go_wp2
    clear x0 x1 x2 x3 xl xf y0 y1 y2 y3 yl yf
    change bodyPost _ _ _ _ _ (setN w4 (sb + 1) 0 [.int .i64 br', .int .i64 bc', .int .i64 (bt' - 1), .int .i64 bd'])
    generalize setN w4 (sb + 1) 0 [.int .i64 br', .int .i64 bc', .int .i64 (bt' - 1), .int .i64 bd'] = wf at hBf hPf ⊢
    have z0 := hPf.out.cell 0
    have z1 := hPf.out.cell 1
    have z2 := hPf.out.cell 2
    have z3 := hPf.out.cell 3
    have zl := hPf.out.lt
    have zf := fun o => hPf.out.frozen o
    simp only [List.getElem?_cons_zero, List.getElem?_cons_succ] at z0 z1 z2 z3
    refine bodyPost_ret (v := .tuple #[.agg #[.int .i64 br', .int .i64 bc', .int .i64 (bt' - 1), .int .i64 bd'], .bool true]) (by simp [results, Try.results57, go_sem, z0, z1, z2, z3]) rfl ⟨by simp [h0, useB], hBf.out⟩
end Go.Proofs.Ytealopempjempaa.Gt
