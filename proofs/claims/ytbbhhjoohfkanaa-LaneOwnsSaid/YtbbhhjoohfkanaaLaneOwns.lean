/- DERIVED. The walk over the statement LaneOwns: what lanes tell hangs on no memory of others. -/
import Derived.Test.YtbbhhjoohfkanaaLaneK
import Derived.Test.YtbbhhjoohfkanaaLaneJ
import Derived.Test.YtbbhhjoohfkanaaLanePlaysA
namespace Go.Proofs.Ytbbhhjoohfkanaa.Lw
set_option linter.unusedVariables false
set_option linter.unusedSimpArgs false
open Go.RowKit Go.Proofs.Ytbbhhjoohfkanaa.K Go.Proofs.Ytbbhhjoohfkanaa.Sp Go.Proofs.Ytbbhhjoohfkanaa.Lb Go.Proofs.Ytbbhhjoohfkanaa.So Go.Proofs.Ytbbhhjoohfkanaa.La
/-- A message in a box of its own. -/
structure MBox (ok : Nat → Prop) (u : World) (b : Nat) (a : Option Addr) (c : Nat) (m : Msg) : Prop where
  p : pts u b [.slice a m.words.length c, .int .i64 m.lane, .int .i64 m.stamp, .int .i64 m.late, .int .i64 m.seq] 30
  w : IntsAt ok u (.slice a m.words.length c) m.words
theorem MBox.kept {ok : Nat → Prop} {u u' : World} {b : Nat} {a : Option Addr} {c : Nat} {m : Msg} (h : MBox ok u b a c m) (hs : u.heap.size ≤ u'.heap.size) (hk : ∀ d, d = b ∨ ok d → d < u.heap.size → u'.heap[d]? = u.heap[d]?) : MBox ok u' b a c m :=
  ⟨h.p.of (hk b (.inl rfl) h.p.lt), h.w.kept hs (fun d hd hlt => hk d (.inr hd) hlt)⟩
theorem MBox.below {ok : Nat → Prop} {u u' : World} {b : Nat} {a : Option Addr} {c : Nat} {m : Msg} (h : MBox ok u b a c m) (hb : Below u.heap.size u u') : MBox ok u' b a c m := h.kept hb.size (fun d _ hlt => hb.block d hlt)
theorem msg1 {okw : Nat → Prop} {w : World} {g : Nat} {p : Value × Msg} {T : TypeId} (h : pts w g (encM p) T) (hw : IntsAt okw w p.1 p.2.words) : MsgsAt (fun _ => True) okw w (.slice (some ⟨g, 0, none⟩) 1 1) [p] :=
  ⟨_, _, rfl, ⟨by simp, by unfold maxLen; omega, fun h => by cases h⟩, fun p' hp => by simp at hp; subst hp; exact hw, .inr ⟨g, 0, rfl, trivial, h.lt, fun i hi j hj => by
    have h0 : i = 0 := by simp at hi; omega
    subst h0
    rw [h.cell]; simp⟩⟩
/-- One of a slice's ints is written. -/
theorem IntsOwn.setAt {ok : Nat → Prop} {u : World} {ao : Option Addr} {n cap : Nat} {xs : List Int} (h : IntsOwn ok u (.slice ao n cap) xs) {k : Nat} (hk : k < xs.length) :
    ∃ g, ao = some ⟨g, 0, none⟩ ∧ ok g ∧ g < u.heap.size ∧ u.cell? ⟨g, k, none⟩ = some (.int .i64 xs[k]) ∧ u.frozen? ⟨g, k, none⟩ = false ∧ ∀ y, IntsOwn ok (u.setCell ⟨g, k, none⟩ (.int .i64 y)) (.slice ao n cap) (xs.set k y) := by
  obtain ⟨hl, hlc, hcm, -⟩ := h.at_.get
  have hx : xs ≠ [] := fun e => by subst e; simp at hk
  rcases h.own with h1 | ⟨g, cap', ex, T, hv, hp⟩
  · exact absurd h1 hx
  · have hv' := hv
    simp only [Value.slice.injEq] at hv
    obtain ⟨rfl, -, rfl⟩ := hv
    obtain ⟨h2, h3⟩ := h.blk hv' hx
    refine ⟨g, rfl, h2, h3, hp.int k hk, hp.frozen k, fun y => ?_⟩
    have hp' := hp.set k (.int .i64 y)
    rw [map_set_ex xs ex k y hk] at hp'
    subst hl
    have := IntsAt.of_pts (ok := ok) (cap := cap) hp' h2 (by simpa using hlc) (by unfold maxLen; omega)
    rw [List.length_set] at this
    exact ⟨this, .inr ⟨g, cap, ex, T, by rw [List.length_set], hp'⟩⟩
/-- What stands behind the calls: the message and its copy; the message that was put, whose words xs turn; lanes; the list that was told, whose words ys turn. -/
structure OS (w : World) (mb s2 wb ib n6 g7 lb : Nat) (a a3 a4 a7 : Option Addr) (c c3 c4 c7 : Nat) (q : Msg) (M6 : Nat → Prop) (u : World) (xs ys : List Int) : Prop where
  M : MBox (fun b => b < mb) u mb a c q
  V : MBox (fun b => s2 ≤ b ∧ b < wb) u wb a3 c3 q
  I : pts u ib [.slice a4 q.words.length c4, .int .i64 q.lane, .int .i64 q.stamp, .int .i64 q.late, .int .i64 q.seq] 30
  i : IntsOwn (fun b => wb < b ∧ b < ib) u (.slice a4 q.words.length c4) xs
  L : LanesM u M6 lb 1 4 [q]
  R : At5 u g7 0 (.slice a7 q.words.length c7) q
  r : IntsOwn (fun b => n6 ≤ b ∧ b ≠ g7) u (.slice a7 q.words.length c7) ys
  B : Below w.heap.size w u
  o1 : w.heap.size ≤ mb ∧ mb < s2 ∧ s2 ≤ wb ∧ wb < ib ∧ ib < n6 ∧ n6 ≤ g7
  o2 : ∀ b, M6 b → ib < b ∧ b < n6
section
variable {w : World} {mb s2 wb ib n6 g7 lb : Nat} {a a3 a4 a7 : Option Addr} {c c3 c4 c7 : Nat} {q : Msg} {M6 : Nat → Prop} {u : World} {xs ys : List Int}
theorem OS.setI (h : OS w mb s2 wb ib n6 g7 lb a a3 a4 a7 c c3 c4 c7 q M6 u xs ys) {g k : Nat} {v : Value} {xs' : List Int} (hg : wb < g ∧ g < ib) (hi : IntsOwn (fun b => wb < b ∧ b < ib) (u.setCell ⟨g, k, none⟩ v) (.slice a4 q.words.length c4) xs') : OS w mb s2 wb ib n6 g7 lb a a3 a4 a7 c c3 c4 c7 q M6 (u.setCell ⟨g, k, none⟩ v) xs' ys := by
  have hs : u.heap.size ≤ (u.setCell ⟨g, k, none⟩ v).heap.size := by simp
  have hk : ∀ b, b ≠ g → (u.setCell ⟨g, k, none⟩ v).heap[b]? = u.heap[b]? := fun b hb => Below.heap_setCell _ _ _ _ hb
  obtain ⟨o1, o2, o3, o4, o5, o6⟩ := h.o1
  exact ⟨h.M.kept hs (fun d hd _ => hk d (by rcases hd with hd | hd <;> omega)), h.V.kept hs (fun d hd _ => hk d (by rcases hd with hd | hd <;> omega)), h.I.of (hk ib (by omega)), hi, h.L.kept hs (fun b hb _ => hk b (by have := h.o2 b hb; omega)), h.R.of hs (hk g7 (by omega)), h.r.kept hs (fun b hb _ => hk b (by have := hb.1; omega)), h.B.setCell (p := ⟨g, k, none⟩) (by show w.heap.size ≤ g; omega) _, h.o1, h.o2⟩
theorem OS.setR (h : OS w mb s2 wb ib n6 g7 lb a a3 a4 a7 c c3 c4 c7 q M6 u xs ys) {g k : Nat} {v : Value} {ys' : List Int} (hg : n6 ≤ g ∧ g ≠ g7) (hr : IntsOwn (fun b => n6 ≤ b ∧ b ≠ g7) (u.setCell ⟨g, k, none⟩ v) (.slice a7 q.words.length c7) ys') : OS w mb s2 wb ib n6 g7 lb a a3 a4 a7 c c3 c4 c7 q M6 (u.setCell ⟨g, k, none⟩ v) xs ys' := by
  have hs : u.heap.size ≤ (u.setCell ⟨g, k, none⟩ v).heap.size := by simp
  have hk : ∀ b, b ≠ g → (u.setCell ⟨g, k, none⟩ v).heap[b]? = u.heap[b]? := fun b hb => Below.heap_setCell _ _ _ _ hb
  obtain ⟨o1, o2, o3, o4, o5, o6⟩ := h.o1
  exact ⟨h.M.kept hs (fun d hd _ => hk d (by rcases hd with hd | hd <;> omega)), h.V.kept hs (fun d hd _ => hk d (by rcases hd with hd | hd <;> omega)), h.I.of (hk ib (by omega)), h.i.kept hs (fun b hb _ => hk b (by have := hb.2; omega)), h.L.kept hs (fun b hb _ => hk b (by have := h.o2 b hb; omega)), h.R.of hs (hk g7 hg.2.symm), hr, h.B.setCell (p := ⟨g, k, none⟩) (by show w.heap.size ≤ g; omega) _, h.o1, h.o2⟩
end
def m8 (m : Msg) : Msg := { cut8 m with lane := 0 }
theorem own_put (m : Msg) (h : m.lane = 0) : putE 1 4 [] m = 0 ∧ putL 1 4 [] m = [m] := by
  have h1 : isT 1 m.lane = true := by rw [h]; rfl
  have h2 : roomT 1 4 [] m.lane ≠ 0 := by unfold roomT; rw [if_pos h1]; simp [ofM]
  unfold putE putL
  rw [if_pos h1, if_neg h2, if_pos h1, if_neg h2]
  exact ⟨rfl, rfl⟩
theorem lnpl14 : lnT 1 = 1 ∧ plT 4 = 4 := by decide
set_option maxHeartbeats 4000000 in
set_option maxRecDepth 100000 in
theorem owns_law {w : World} {a : Option Addr} {c : Nat} {m : Msg} (hm : IntsAt (fun b => b < w.heap.size) w (.slice a m.words.length c) m.words) : Calls Try.prog 9 #[.agg #[.slice a m.words.length c, .int .i64 m.lane, .int .i64 m.stamp, .int .i64 m.late, .int .i64 m.seq]] w (LivesPost w) := by
  have hmin := minTwo
  have hl := hm.get.2.1
  have hmx := hm.get.2.2.1
  have e8n := hid (show (m8 m).words.length = (min (m.words.length : Int) 8).toNat by unfold m8 cut8; simp; omega)
  have hmn : min (m.words.length : Int) 8 ≤ c := by omega
  have hmz : 0 ≤ min (m.words.length : Int) 8 := by omega
  have hbA := hid ((Below.refl w.heap.size w).alloc (Nat.le_refl _) (.cells #[.slice a m.words.length c, .int .i64 m.lane, .int .i64 m.stamp, .int .i64 m.late, .int .i64 m.seq] 30))
  have hpA := hid (pts.newA w #[.slice a m.words.length c, .int .i64 m.lane, .int .i64 m.stamp, .int .i64 m.late, .int .i64 m.seq] 30)
  replace hm := hid hm
  go_enter Try.func9, Try.ntmps9
  go_upto_region 3 with (first | (go_at_call 11; (with_reducible refine (lives_c _).mono ?_); rintro e w1 ⟨rfl, hb⟩; have hp1 := hid (hpA.out.below hb); have hb1 := hid (Below.next hbA.out hb (by simp)); clear hb))
  have y0 := hp1.out.cell 0
  have y1 := hp1.out.cell 1
  have f0 := hp1.out.frozen 0
  have f1 := hp1.out.frozen 1
  have yl := hp1.out.lt
  simp only [List.getElem?_cons_zero, List.getElem?_cons_succ] at y0 y1
  go_upto_region 5 with fail
  rw [← e8n.out]
  have hB2 := hid ((hb1.out.setCell (p := ⟨w.heap.size, 0, none⟩) (Nat.le_refl _) (.slice a (m8 m).words.length c)).setCell (p := ⟨w.heap.size, 1, none⟩) (Nat.le_refl _) (.int .i64 0))
  have hM2 : MBox (fun b => b < w.heap.size) ((w1.setCell ⟨w.heap.size, 0, none⟩ (.slice a (m8 m).words.length c)).setCell ⟨w.heap.size, 1, none⟩ (.int .i64 0)) w.heap.size a c (m8 m) := by
    refine ⟨(hp1.out.set 0 (.slice a (m8 m).words.length c)).set 1 (.int .i64 0), ?_⟩
    exact (hm.out.cut 8).below hB2.out
  have hq0 : (m8 m).lane = 0 := rfl
  have hq8 : (m8 m).words.length ≤ 8 := cut8_len m
  have hmb := hid hM2.p.lt
  generalize (w1.setCell ⟨w.heap.size, 0, none⟩ (.slice a (m8 m).words.length c)).setCell ⟨w.heap.size, 1, none⟩ (.int .i64 0) = W2 at hB2 hM2 hmb ⊢
  generalize m8 m = q at hM2 hq0 hq8
  clear y0 y1 f0 f1 yl hp1 hb1 hpA hbA e8n hmn hmz hmin
  obtain ⟨mb, hmbe⟩ : ∃ mb, mb = w.heap.size := ⟨_, rfl⟩
  rw [← hmbe] at hM2 hmb ⊢
  have hmb0 := hid (show w.heap.size ≤ mb by omega)
  replace hmbe := hid hmbe
  have hcl := hid (fun (u : World) (h : IntsAt (fun b => b < mb) u (.slice a q.words.length c) q.words) => show Calls Try.prog 34 #[.agg #[.slice a q.words.length c, .int .i64 q.lane, .int .i64 q.stamp, .int .i64 q.late, .int .i64 q.seq]] u _ from mclone2_c (p := (.slice a q.words.length c, q)) h (by show q.words.length ≤ _; omega))
  unfold aggM at hcl
  have y0 := hM2.p.cell 0
  have y1 := hM2.p.cell 1
  have y2 := hM2.p.cell 2
  have y3 := hM2.p.cell 3
  have y4 := hM2.p.cell 4
  have yl := hM2.p.lt
  simp only [List.getElem?_cons_zero, List.getElem?_cons_succ] at y0 y1 y2 y3 y4
  replace hM2 := hid hM2
  replace hq0 := hid hq0
  go_upto_region 6 with (first | (go_at_call 34; (with_reducible refine (hcl.out _ hM2.out.w).mono ?_); rintro e w3 ⟨v3, rfl, hi3, hb3⟩; obtain ⟨a3, c3, rfl⟩ := hi3.shape))
  have hbX := (Below.refl w3.heap.size w3).alloc (Nat.le_refl _) (.cells #[.slice a3 q.words.length c3, .int .i64 q.lane, .int .i64 q.stamp, .int .i64 q.late, .int .i64 q.seq] 30)
  have hB3 := hid (Below.next hB2.out (Below.next hb3 hbX hb3.size) (Nat.le_trans hmb0.out (Nat.le_of_lt hmb.out)))
  have hM3 := hid ((hM2.out.below hb3).below hbX)
  have hV3 : MBox (fun b => W2.heap.size ≤ b ∧ b < w3.heap.size) (w3.alloc (.cells #[.slice a3 q.words.length c3, .int .i64 q.lane, .int .i64 q.stamp, .int .i64 q.late, .int .i64 q.seq] 30)) w3.heap.size a3 c3 q := ⟨pts.newA w3 _ _, (hi3.at_.mono (fun b h hlt => ⟨h, hlt⟩)).below hbX⟩
  have h23 := hid hb3.size
  have hsz3 : (w3.alloc (.cells #[.slice a3 q.words.length c3, .int .i64 q.lane, .int .i64 q.stamp, .int .i64 q.late, .int .i64 q.seq] 30)).heap.size = w3.heap.size + 1 := by simp
  clear hbX hb3 hi3 y0 y1 y2 y3 y4 yl hM2 hB2
  generalize w3.alloc (.cells #[.slice a3 q.words.length c3, .int .i64 q.lane, .int .i64 q.stamp, .int .i64 q.late, .int .i64 q.seq] 30) = W3 at hB3 hM3 hV3 hsz3 ⊢
  generalize w3.heap.size = wb at hV3 hsz3 h23 ⊢
  generalize W2.heap.size = s2 at hV3 h23 hmb
  have y0 := hM3.out.p.cell 0
  have y1 := hM3.out.p.cell 1
  have y2 := hM3.out.p.cell 2
  have y3 := hM3.out.p.cell 3
  have y4 := hM3.out.p.cell 4
  have yl := hM3.out.p.lt
  simp only [List.getElem?_cons_zero, List.getElem?_cons_succ] at y0 y1 y2 y3 y4
  replace hV3 := hid hV3
  replace hsz3 := hid hsz3
  go_upto_region 7 with (first | (go_at_call 34; (with_reducible refine (hcl.out _ hM3.out.w).mono ?_); rintro e w4 ⟨v4, rfl, hi4, hb4⟩; obtain ⟨a4, c4, rfl⟩ := hi4.shape))
  have hbX := (Below.refl w4.heap.size w4).alloc (Nat.le_refl _) (.cells #[.slice a4 q.words.length c4, .int .i64 q.lane, .int .i64 q.stamp, .int .i64 q.late, .int .i64 q.seq] 30)
  have hB4 := hid (Below.next hB3.out (Below.next hb4 hbX hb4.size) hB3.out.size)
  have hM4 := hid ((hM3.out.below hb4).below hbX)
  have hV4 := hid ((hV3.out.below hb4).below hbX)
  have hI4 := pts.newA w4 #[.slice a4 q.words.length c4, .int .i64 q.lane, .int .i64 q.stamp, .int .i64 q.late, .int .i64 q.seq] 30
  have hi4 := hid (((hi4.mono (ok' := fun b => wb < b ∧ b < w4.heap.size) (fun b h hlt => ⟨by have := hsz3.out; omega, hlt⟩))).below hbX)
  have h34 := hid (show wb < w4.heap.size by have := hb4.size; have := hsz3.out; omega)
  have hsz4 : (w4.alloc (.cells #[.slice a4 q.words.length c4, .int .i64 q.lane, .int .i64 q.stamp, .int .i64 q.late, .int .i64 q.seq] 30)).heap.size = w4.heap.size + 1 := by simp
  clear hbX hb4 y0 y1 y2 y3 y4 yl hM3 hB3 hV3
  generalize w4.alloc (.cells #[.slice a4 q.words.length c4, .int .i64 q.lane, .int .i64 q.stamp, .int .i64 q.late, .int .i64 q.seq] 30) = W4 at hB4 hM4 hV4 hI4 hi4 hsz4 ⊢
  generalize w4.heap.size = ib at hI4 hsz4 h34 hi4 ⊢
  have y0 := hI4.cell 0
  have y1 := hI4.cell 1
  have y2 := hI4.cell 2
  have y3 := hI4.cell 3
  have y4 := hI4.cell 4
  have yl := hI4.lt
  simp only [List.getElem?_cons_zero, List.getElem?_cons_succ] at y0 y1 y2 y3 y4
  replace hI4 := hid hI4
  replace hsz4 := hid hsz4
  have hl14 := hid lnpl14
  have hop := hid (own_put q hq0.out)
  have hsq := hid (show sortM [q] = [q] from rfl)
  go_upto_region 10 with (first | (go_at_call 12; (with_reducible refine (La.new_c W4 1 4).mono ?_); rintro e w5 ⟨lb, rfl, hL5, hb5⟩; rw [hl14.out.1, hl14.out.2] at hL5; have hsz5 := hid hb5.size; have hB5 := hid (Below.next hB4.out hb5 hB4.out.size); have hM5 := hid (hM4.out.below hb5); have hV5 := hid (hV4.out.below hb5); have hI5 := hid (hI4.out.below hb5); have hi5 := hid (hi4.out.below hb5); have hx5 := bcell hb5; have z0 := (hx5.1 ib 0 yl).trans y0; have z1 := (hx5.1 ib 1 yl).trans y1; have z2 := (hx5.1 ib 2 yl).trans y2; have z3 := (hx5.1 ib 3 yl).trans y3; have z4 := (hx5.1 ib 4 yl).trans y4; have zl := Nat.lt_of_lt_of_le yl hb5.size; replace hL5 := hid hL5; clear hb5 hx5 y0 y1 y2 y3 y4) | (go_at_call 16; (with_reducible refine (La.put_any hL5.out hi5.out.at_ (by omega)).mono ?_); rintro e w6 ⟨rfl, hL6, hC6⟩; rw [hop.out.1]; rw [hop.out.2] at hL6; replace hL6 := hid hL6; replace hC6 := hid hC6) | (go_at_call 17; (with_reducible refine (all2_c hL6.out).mono ?_); rw [hsq.out]; rintro e w7 ⟨v7, qs7, rfl, hq7, ho7, hw7, hb7⟩; obtain ⟨a7, c7, rfl⟩ := own_shape ho7))
  obtain ⟨sv, rfl⟩ : ∃ sv, qs7 = [(sv, q)] := by
    match qs7, hq7 with
    | [(sv, m1)], h => simp at h; exact ⟨sv, by rw [h]⟩
  clear hq7
  obtain ⟨g7, cap7, ex7, e7, hg7, hp7, -⟩ := own_split ho7 (by simp)
  have hiw := hw7 (sv, q) (by simp)
  obtain ⟨asv, cs, hsv⟩ := hiw.shape
  simp only at hsv
  subst hsv
  obtain ⟨rfl, -⟩ : a7 = some ⟨g7, 0, none⟩ ∧ True := by simp only [Value.slice.injEq] at e7; exact ⟨e7.1, trivial⟩
  have hOS : OS w mb s2 wb ib w6.heap.size g7 lb a a3 a4 asv c c3 c4 cs q (grow (fun b => W4.heap.size ≤ b ∧ b < w5.heap.size) w5 w6) w7 q.words q.words := by
    have o3 := hsz3.out
    have o4 := hsz4.out
    have o5 := hsz5.out
    have hne5 : ∀ b, b ≤ ib → ¬ (W4.heap.size ≤ b ∧ b < w5.heap.size) := fun b hb h => by omega
    refine ⟨((hM5.out.kept hC6.out.size (fun d hd hlt => hC6.out.block d hlt (hne5 d (by rcases hd with hd | hd <;> (have := h23.out; have := h34.out; have := hmb.out; omega)))))).below hb7, ((hV5.out.kept hC6.out.size (fun d hd hlt => hC6.out.block d hlt (hne5 d (by rcases hd with hd | hd <;> (have := h34.out; omega)))))).below hb7, (hI5.out.chg hC6.out (hne5 ib (Nat.le_refl _))).below hb7, ((hi5.out.kept hC6.out.size (fun d hd hlt => hC6.out.block d hlt (hne5 d (by omega))))).below hb7, hL6.out.below hb7, ?_, ?_, ?_, ?_, ?_⟩
    · exact at5_pts (i := 0) hp7 (by simp)
    · refine hiw.mono (fun b h _ => ⟨h.1, fun e => h.2 (by rw [e]; rfl)⟩)
    · exact (Below.thenChg hB5.out hC6.out hB5.out.size (fun b h => by have := hB4.out.size; omega)).trans (hb7.mono (Nat.le_trans hB5.out.size hC6.out.size))
    · exact ⟨hmb0.out, hmb.out, h23.out, h34.out, by have := hC6.out.size; omega, hg7⟩
    · intro b hb
      rcases hb with hb | hb
      · exact ⟨by omega, by have := hC6.out.size; omega⟩
      · exact ⟨by omega, hb.2⟩
  clear hM5 hV5 hI5 hi5 hL5 hL6 hC6 hM4 hV4 hI4 hi4 hB4 hB5 hsz3 hsz4 hsz5 h23 h34 hmb hmb0 hmbe hcl hop hsq hl14 hb7 ho7 hw7 hiw hp7 e7 z0 z1 z2 z3 z4 zl hg7 yl
  generalize grow (fun b => W4.heap.size ≤ b ∧ b < w5.heap.size) w5 w6 = M6 at hOS
  generalize w6.heap.size = n6 at hOS
  replace hOS := hid hOS
  rw [show [(Value.slice asv q.words.length cs, q)].length = 1 from rfl]
  go_wp2
  go_loopg [7] q.words.length (fun g i wr => ∃ (k : Nat) (xs : List Int), k ≤ q.words.length ∧ Hid (xs.length = q.words.length) ∧ g = q.words.length - k ∧ i = .int .i64 k ∧ OS w mb s2 wb ib n6 g7 lb a a3 a4 asv c c3 c4 cs q M6 wr xs q.words)
  case atStart => exact ⟨0, _, Nat.zero_le _, hid rfl, rfl, rfl, hOS.out⟩
  case round =>
    clear hOS
    obtain ⟨k, xs, hk, hxl, hgk, rfl, hO⟩ := hrel
    have y0 := hO.I.cell 0
    have yl := hO.I.lt
    simp only [List.getElem?_cons_zero] at y0
    by_cases hlt : k < q.words.length
    · obtain ⟨gI, rfl, hgI, hgl, z0, zf, hset⟩ := hO.i.setAt (k := k) (by have := hxl.out; omega)
      have hO1 := hid (fun y => hO.setI hgI (hset y))
      have hki : (k : Int) < q.words.length := by omega
      clear hset hO
      go_wp2
      go_roundg (q.words.length - (k + 1))
      case rel => exact ⟨k + 1, _, by omega, hid (by rw [List.length_set]; exact hxl.out), rfl, by go_num, hO1.out _⟩
      case measure => omega
    · obtain rfl : k = q.words.length := by omega
      have hO2 := hid hO
      clear hO
      go_wp2
      clear y0 yl
      go_loopg [8, 9] 1 (fun g i i9 wx => ∃ (n : Nat) (ys : List Int), n ≤ 1 ∧ Hid (ys.length = q.words.length) ∧ g = 1 - n ∧ i = .int .i64 n ∧ OS w mb s2 wb ib n6 g7 lb a a3 a4 asv c c3 c4 cs q M6 wx xs ys)
      case atStart => exact ⟨0, _, by omega, hid rfl, rfl, rfl, hO2.out⟩
      case round =>
        clear hO2
        obtain ⟨n, ys0, hn, hyl0, hgn, rfl, hO⟩ := hrel
        by_cases hn1 : n < 1
        · obtain rfl : n = 0 := by omega
          have hO3 := hid hO
          clear hO
          go_wp2
          go_loopg [9] q.words.length (fun g i wz => ∃ (k : Nat) (ys : List Int), k ≤ q.words.length ∧ Hid (ys.length = q.words.length) ∧ g = q.words.length - k ∧ i = .int .i64 k ∧ OS w mb s2 wb ib n6 g7 lb a a3 a4 asv c c3 c4 cs q M6 wz xs ys)
          case atStart => exact ⟨0, _, Nat.zero_le _, hyl0, rfl, rfl, hO3.out⟩
          case round =>
            clear hO3
            obtain ⟨k, ys, hk, hyl, hgk, rfl, hO⟩ := hrel
            have y0 := hO.R.c0
            have yl := hO.R.lt
            by_cases hlt : k < q.words.length
            · obtain ⟨gR, rfl, hgR, hgl, z0, zf, hset⟩ := hO.r.setAt (k := k) (by have := hyl.out; omega)
              have hO1 := hid (fun y => hO.setR hgR (hset y))
              have hki : (k : Int) < q.words.length := by omega
              clear hset hO
              go_wp2
              go_roundg (q.words.length - (k + 1))
              case rel => exact ⟨k + 1, _, by omega, hid (by rw [List.length_set]; exact hyl.out), rfl, by go_num, hO1.out _⟩
              case measure => omega
            · obtain rfl : k = q.words.length := by omega
              have hO1 := hid hO
              clear hO
              go_wp2
              go_roundg 0
              case rel => exact ⟨1, ys, by omega, hyl, rfl, rfl, hO1.out⟩
              case measure => omega
        · obtain rfl : n = 1 := by omega
          have hO3 := hid hO
          clear hO
          have hsq := hid (show sortM [q] = q :: [] from rfl)
          go_upto_region 22 with (first | (go_at_call 18; (with_reducible refine (La.take_some hO3.out.L hsq.out).mono ?_); rintro e w8 ⟨⟨a8, c8, rfl, hi8⟩, hL8, hC8⟩))
          have hO := hO3.out
          obtain ⟨o1, o2, o3, o4, o5, o6⟩ := hO.o1
          have hbX := (Below.refl w8.heap.size w8).alloc (Nat.le_refl _) (.cells #[.slice a8 q.words.length c8, .int .i64 q.lane, .int .i64 q.stamp, .int .i64 q.late, .int .i64 q.seq] 30)
          have hM := hid ((hO.M.kept hC8.size (fun d hd hlt => hC8.block d hlt (fun hm => by have := hO.o2 d hm; rcases hd with hd | hd <;> omega))).below hbX)
          have hV := hid ((hO.V.kept hC8.size (fun d hd hlt => hC8.block d hlt (fun hm => by have := hO.o2 d hm; rcases hd with hd | hd <;> omega))).below hbX)
          have hG : Hid (MBox (fun b => M6 b) (w8.alloc (.cells #[.slice a8 q.words.length c8, .int .i64 q.lane, .int .i64 q.stamp, .int .i64 q.late, .int .i64 q.seq] 30)) w8.heap.size a8 c8 q) := hid ⟨pts.newA w8 _ _, hi8.below hbX⟩
          have hB9 := hid (Below.next (Below.thenChg hO.B hC8 hO.B.size (fun b h => by have := hO.o2 b h; omega)) hbX (Nat.le_trans hO.B.size hC8.size))
          clear hbX hL8 hC8 hi8 hO hO3 o1 o2 o3 o4 o5 o6
          generalize w8.alloc (.cells #[.slice a8 q.words.length c8, .int .i64 q.lane, .int .i64 q.stamp, .int .i64 q.late, .int .i64 q.seq] 30) = W9 at hM hV hG hB9 ⊢
          generalize w8.heap.size = gb at hG ⊢
          -- REG empennage/empennagelaw10.LaneOwns|22|LaneOwns.22
          refine region_tab 19 [Sp.eq (.bool true), Sp.eq (.bool true), Sp.eq (.agg #[.slice a8 q.words.length c8, .int .i64 q.lane, .int .i64 q.stamp, .int .i64 q.late, .int .i64 q.seq]), Sp.eq (.agg #[.slice a3 q.words.length c3, .int .i64 q.lane, .int .i64 q.stamp, .int .i64 q.late, .int .i64 q.seq]), Sp.eq (.bool true), Sp.eq (.bool true), Sp.eq (.bool true), Sp.eq (.agg #[.slice a q.words.length c, .int .i64 q.lane, .int .i64 q.stamp, .int .i64 q.late, .int .i64 q.seq]), Sp.eq (.agg #[.slice a3 q.words.length c3, .int .i64 q.lane, .int .i64 q.stamp, .int .i64 q.late, .int .i64 q.seq]), Sp.eq (.bool true), Sp.eq (.bool true), Sp.eq (.bool true), Sp.eq (.agg #[.slice a8 q.words.length c8, .int .i64 q.lane, .int .i64 q.stamp, .int .i64 q.late, .int .i64 q.seq]), Sp.of (fun v u => ∃ b, v = .slice (some ⟨b, 0, none⟩) 1 1 ∧ pts u b [.slice a8 q.words.length c8, .int .i64 q.lane, .int .i64 q.stamp, .int .i64 q.late, .int .i64 q.seq] 30) (fun v w w' h hb => (show ∃ b, _ from h.imp (fun b h2 => ⟨h2.1, h2.2.below hb⟩))), Sp.eq (.agg #[.slice a3 q.words.length c3, .int .i64 q.lane, .int .i64 q.stamp, .int .i64 q.late, .int .i64 q.seq]), Sp.of (fun v u => ∃ b, v = .slice (some ⟨b, 0, none⟩) 1 1 ∧ pts u b [.slice a3 q.words.length c3, .int .i64 q.lane, .int .i64 q.stamp, .int .i64 q.late, .int .i64 q.seq] 30) (fun v w w' h hb => (show ∃ b, _ from h.imp (fun b h2 => ⟨h2.1, h2.2.below hb⟩))), Sp.eq (.bool true), Sp.eq (.bool true), Sp.eq (.bool true)] (fun _ _ _ _ _ h => h) (by kernel_rfl) (by kernel_rfl) ⟨?_, ?_, ?_, ?_, ?_, ?_, ?_, ?_, ?_, ?_, ?_, ?_, ?_, ?_, ?_, ?_, ?_, ?_, ?_, trivial⟩ ?_
          · intro ac gs u hb hg h
            have e11 : ac.tmps[11]?.getD undef = .bool true := h.inm 11 rfl rfl
            refine opFree rfl ?_
            exact relMoveT _ rfl e11 (okP hg rfl)
          · intro ac gs u hb hg h
            have e78 : ac.tmps[78]?.getD undef = .bool true := h.tm 0 78 rfl rfl
            refine opFree rfl ?_
            exact relMoveT _ rfl e78 (okP hg rfl)
          · intro ac gs u hb hg h
            have e79 : ac.tmps[79]?.getD undef = .bool true := h.tm 1 79 rfl rfl
            have e10 : ac.tmps[10]?.getD undef = .pointer (some ⟨gb, 0, none⟩) := h.inm 10 rfl rfl
            refine opWant 1 79 rfl rfl e79 ?_
            exact relRun (v := .agg #[.slice a8 q.words.length c8, .int .i64 q.lane, .int .i64 q.stamp, .int .i64 q.late, .int .i64 q.seq]) (w' := u) (by simp [go_sem, e79, e10, ((hG.out.below hb).p.cell 0), ((hG.out.below hb).p.cell 1), ((hG.out.below hb).p.cell 2), ((hG.out.below hb).p.cell 3), ((hG.out.below hb).p.cell 4)]) (okP hg rfl)
          · intro ac gs u hb hg h
            have e79 : ac.tmps[79]?.getD undef = .bool true := h.tm 1 79 rfl rfl
            have e3 : ac.tmps[3]?.getD undef = .pointer (some ⟨wb, 0, none⟩) := h.inm 3 rfl rfl
            refine opWant 1 79 rfl rfl e79 ?_
            exact relRun (v := .agg #[.slice a3 q.words.length c3, .int .i64 q.lane, .int .i64 q.stamp, .int .i64 q.late, .int .i64 q.seq]) (w' := u) (by simp [go_sem, e79, e3, ((hV.out.below hb).p.cell 0), ((hV.out.below hb).p.cell 1), ((hV.out.below hb).p.cell 2), ((hV.out.below hb).p.cell 3), ((hV.out.below hb).p.cell 4)]) (okP hg rfl)
          · intro ac gs u hb hg h
            have e79 : ac.tmps[79]?.getD undef = .bool true := h.tm 1 79 rfl rfl
            have e80 : ac.tmps[80]?.getD undef = .agg #[.slice a8 q.words.length c8, .int .i64 q.lane, .int .i64 q.stamp, .int .i64 q.late, .int .i64 q.seq] := h.tm 2 80 rfl rfl
            have e81 : ac.tmps[81]?.getD undef = .agg #[.slice a3 q.words.length c3, .int .i64 q.lane, .int .i64 q.stamp, .int .i64 q.late, .int .i64 q.seq] := h.tm 3 81 rfl rfl
            refine opWant 1 79 rfl rfl e79 ?_
            refine relCall (f := _) (args := #[.agg #[.slice a8 q.words.length c8, .int .i64 q.lane, .int .i64 q.stamp, .int .i64 q.late, .int .i64 q.seq], .agg #[.slice a3 q.words.length c3, .int .i64 q.lane, .int .i64 q.stamp, .int .i64 q.late, .int .i64 q.seq]]) (by simp [go_sem, e79, e80, e81]; rfl) ?_
            refine (R2.one_eq (hG.out.below hb).w (hV.out.below hb).w rfl).mono ?_
            rintro e w' ⟨rfl, hb'⟩
            exact ⟨_, rfl, okB hg hb' rfl⟩
          · intro ac gs u hb hg h
            have e79 : ac.tmps[79]?.getD undef = .bool true := h.tm 1 79 rfl rfl
            have e82 : ac.tmps[82]?.getD undef = .bool true := h.tm 4 82 rfl rfl
            refine opFree rfl ?_
            exact relRun (v := .bool true) (w' := u) (by simp [go_sem, e79, e82]) (okP hg rfl)
          · intro ac gs u hb hg h
            have e83 : ac.tmps[83]?.getD undef = .bool true := h.tm 5 83 rfl rfl
            refine opFree rfl ?_
            exact relMoveT _ rfl e83 (okP hg rfl)
          · intro ac gs u hb hg h
            have e84 : ac.tmps[84]?.getD undef = .bool true := h.tm 6 84 rfl rfl
            have e1 : ac.tmps[1]?.getD undef = .pointer (some ⟨mb, 0, none⟩) := h.inm 1 rfl rfl
            refine opWant 6 84 rfl rfl e84 ?_
            exact relRun (v := .agg #[.slice a q.words.length c, .int .i64 q.lane, .int .i64 q.stamp, .int .i64 q.late, .int .i64 q.seq]) (w' := u) (by simp [go_sem, e84, e1, ((hM.out.below hb).p.cell 0), ((hM.out.below hb).p.cell 1), ((hM.out.below hb).p.cell 2), ((hM.out.below hb).p.cell 3), ((hM.out.below hb).p.cell 4)]) (okP hg rfl)
          · intro ac gs u hb hg h
            have e84 : ac.tmps[84]?.getD undef = .bool true := h.tm 6 84 rfl rfl
            have e3 : ac.tmps[3]?.getD undef = .pointer (some ⟨wb, 0, none⟩) := h.inm 3 rfl rfl
            refine opWant 6 84 rfl rfl e84 ?_
            exact relRun (v := .agg #[.slice a3 q.words.length c3, .int .i64 q.lane, .int .i64 q.stamp, .int .i64 q.late, .int .i64 q.seq]) (w' := u) (by simp [go_sem, e84, e3, ((hV.out.below hb).p.cell 0), ((hV.out.below hb).p.cell 1), ((hV.out.below hb).p.cell 2), ((hV.out.below hb).p.cell 3), ((hV.out.below hb).p.cell 4)]) (okP hg rfl)
          · intro ac gs u hb hg h
            have e84 : ac.tmps[84]?.getD undef = .bool true := h.tm 6 84 rfl rfl
            have e85 : ac.tmps[85]?.getD undef = .agg #[.slice a q.words.length c, .int .i64 q.lane, .int .i64 q.stamp, .int .i64 q.late, .int .i64 q.seq] := h.tm 7 85 rfl rfl
            have e86 : ac.tmps[86]?.getD undef = .agg #[.slice a3 q.words.length c3, .int .i64 q.lane, .int .i64 q.stamp, .int .i64 q.late, .int .i64 q.seq] := h.tm 8 86 rfl rfl
            refine opWant 6 84 rfl rfl e84 ?_
            refine relCall (f := _) (args := #[.agg #[.slice a q.words.length c, .int .i64 q.lane, .int .i64 q.stamp, .int .i64 q.late, .int .i64 q.seq], .agg #[.slice a3 q.words.length c3, .int .i64 q.lane, .int .i64 q.stamp, .int .i64 q.late, .int .i64 q.seq]]) (by simp [go_sem, e84, e85, e86]; rfl) ?_
            refine (R2.one_eq (hM.out.below hb).w (hV.out.below hb).w rfl).mono ?_
            rintro e w' ⟨rfl, hb'⟩
            exact ⟨_, rfl, okB hg hb' rfl⟩
          · intro ac gs u hb hg h
            have e84 : ac.tmps[84]?.getD undef = .bool true := h.tm 6 84 rfl rfl
            have e87 : ac.tmps[87]?.getD undef = .bool true := h.tm 9 87 rfl rfl
            refine opFree rfl ?_
            exact relRun (v := .bool true) (w' := u) (by simp [go_sem, e84, e87]) (okP hg rfl)
          · intro ac gs u hb hg h
            have e88 : ac.tmps[88]?.getD undef = .bool true := h.tm 10 88 rfl rfl
            refine opFree rfl ?_
            exact relMoveT _ rfl e88 (okP hg rfl)
          · intro ac gs u hb hg h
            have e89 : ac.tmps[89]?.getD undef = .bool true := h.tm 11 89 rfl rfl
            have e10 : ac.tmps[10]?.getD undef = .pointer (some ⟨gb, 0, none⟩) := h.inm 10 rfl rfl
            refine opWant 11 89 rfl rfl e89 ?_
            exact relRun (v := .agg #[.slice a8 q.words.length c8, .int .i64 q.lane, .int .i64 q.stamp, .int .i64 q.late, .int .i64 q.seq]) (w' := u) (by simp [go_sem, e89, e10, ((hG.out.below hb).p.cell 0), ((hG.out.below hb).p.cell 1), ((hG.out.below hb).p.cell 2), ((hG.out.below hb).p.cell 3), ((hG.out.below hb).p.cell 4)]) (okP hg rfl)
          · intro ac gs u hb hg h
            have e89 : ac.tmps[89]?.getD undef = .bool true := h.tm 11 89 rfl rfl
            have e90 : ac.tmps[90]?.getD undef = .agg #[.slice a8 q.words.length c8, .int .i64 q.lane, .int .i64 q.stamp, .int .i64 q.late, .int .i64 q.seq] := h.tm 12 90 rfl rfl
            refine opWant 11 89 rfl rfl e89 ?_
            exact relRun (v := .slice (some ⟨u.heap.size, 0, none⟩) 1 1) (w' := u.alloc (.cells #[.slice a8 q.words.length c8, .int .i64 q.lane, .int .i64 q.stamp, .int .i64 q.late, .int .i64 q.seq] 30)) (by simp [go_sem, e90]) (okA _ hg ⟨_, rfl, pts.newA u _ _⟩)
          · intro ac gs u hb hg h
            have e89 : ac.tmps[89]?.getD undef = .bool true := h.tm 11 89 rfl rfl
            have e3 : ac.tmps[3]?.getD undef = .pointer (some ⟨wb, 0, none⟩) := h.inm 3 rfl rfl
            refine opWant 11 89 rfl rfl e89 ?_
            exact relRun (v := .agg #[.slice a3 q.words.length c3, .int .i64 q.lane, .int .i64 q.stamp, .int .i64 q.late, .int .i64 q.seq]) (w' := u) (by simp [go_sem, e89, e3, ((hV.out.below hb).p.cell 0), ((hV.out.below hb).p.cell 1), ((hV.out.below hb).p.cell 2), ((hV.out.below hb).p.cell 3), ((hV.out.below hb).p.cell 4)]) (okP hg rfl)
          · intro ac gs u hb hg h
            have e89 : ac.tmps[89]?.getD undef = .bool true := h.tm 11 89 rfl rfl
            have e92 : ac.tmps[92]?.getD undef = .agg #[.slice a3 q.words.length c3, .int .i64 q.lane, .int .i64 q.stamp, .int .i64 q.late, .int .i64 q.seq] := h.tm 14 92 rfl rfl
            refine opWant 11 89 rfl rfl e89 ?_
            exact relRun (v := .slice (some ⟨u.heap.size, 0, none⟩) 1 1) (w' := u.alloc (.cells #[.slice a3 q.words.length c3, .int .i64 q.lane, .int .i64 q.stamp, .int .i64 q.late, .int .i64 q.seq] 30)) (by simp [go_sem, e92]) (okA _ hg ⟨_, rfl, pts.newA u _ _⟩)
          · intro ac gs u hb hg h
            have e89 : ac.tmps[89]?.getD undef = .bool true := h.tm 11 89 rfl rfl
            have e91 := h.tm 13 91 rfl rfl
            have e93 := h.tm 15 93 rfl rfl
            refine opWant 11 89 rfl rfl e89 ?_
            obtain ⟨b1, h1, p1⟩ := e91
            obtain ⟨b2, h2, p2⟩ := e93
            refine relCall (f := _) (args := #[.slice (some ⟨b1, 0, none⟩) 1 1, .slice (some ⟨b2, 0, none⟩) 1 1]) (by simp [go_sem, h1, h2]; rfl) ?_
            refine (La.same_c (msg1 (p := (.slice a8 q.words.length c8, q)) p1 (hG.out.below hb).w) (msg1 (p := (.slice a3 q.words.length c3, q)) p2 (hV.out.below hb).w)).mono ?_
            rintro e w' ⟨rfl, hb'⟩
            exact ⟨_, rfl, okB hg hb' (congrArg Value.bool (R2.sameL_self [q]))⟩
          · intro ac gs u hb hg h
            have e89 : ac.tmps[89]?.getD undef = .bool true := h.tm 11 89 rfl rfl
            have e94 : ac.tmps[94]?.getD undef = .bool true := h.tm 16 94 rfl rfl
            refine opFree rfl ?_
            exact relRun (v := .bool true) (w' := u) (by simp [go_sem, e89, e94]) (okP hg rfl)
          · intro ac gs u hb hg h
            have e95 : ac.tmps[95]?.getD undef = .bool true := h.tm 17 95 rfl rfl
            refine opFree rfl ?_
            exact relAssignT _ rfl e95 (okP hg rfl)
          intro vs gs u hb hg hr
          have r0 : vs 0 = .bool true := hr 0 (by decide)
          have r1 : vs 1 = .bool true := hr 1 (by decide)
          have r2 : vs 2 = .agg #[.slice a8 q.words.length c8, .int .i64 q.lane, .int .i64 q.stamp, .int .i64 q.late, .int .i64 q.seq] := hr 2 (by decide)
          have r3 : vs 3 = .agg #[.slice a3 q.words.length c3, .int .i64 q.lane, .int .i64 q.stamp, .int .i64 q.late, .int .i64 q.seq] := hr 3 (by decide)
          have r4 : vs 4 = .bool true := hr 4 (by decide)
          have r5 : vs 5 = .bool true := hr 5 (by decide)
          have r6 : vs 6 = .bool true := hr 6 (by decide)
          have r7 : vs 7 = .agg #[.slice a q.words.length c, .int .i64 q.lane, .int .i64 q.stamp, .int .i64 q.late, .int .i64 q.seq] := hr 7 (by decide)
          have r8 : vs 8 = .agg #[.slice a3 q.words.length c3, .int .i64 q.lane, .int .i64 q.stamp, .int .i64 q.late, .int .i64 q.seq] := hr 8 (by decide)
          have r9 : vs 9 = .bool true := hr 9 (by decide)
          have r10 : vs 10 = .bool true := hr 10 (by decide)
          have r11 : vs 11 = .bool true := hr 11 (by decide)
          have r12 : vs 12 = .agg #[.slice a8 q.words.length c8, .int .i64 q.lane, .int .i64 q.stamp, .int .i64 q.late, .int .i64 q.seq] := hr 12 (by decide)
          have r13 := hr 13 (by decide)
          have r14 : vs 14 = .agg #[.slice a3 q.words.length c3, .int .i64 q.lane, .int .i64 q.stamp, .int .i64 q.late, .int .i64 q.seq] := hr 14 (by decide)
          have r15 := hr 15 (by decide)
          have r16 : vs 16 = .bool true := hr 16 (by decide)
          have r17 : vs 17 = .bool true := hr 17 (by decide)
          have r18 : vs 18 = .bool true := hr 18 (by decide)
          simp only [List.take_succ_cons, List.take_zero, List.drop_succ_cons, List.drop_zero, putOps, r0, r1, r2, r3, r4, r5, r6, r7, r8, r9, r10, r11, r12, r14, r16, r17, r18]
          simp only [Act.put, List.setIfInBounds_toArray, List.set_cons_succ, List.set_cons_zero]
          clear hr r0 r1 r2 r3 r4 r5 r6 r7 r8 r9 r10 r11 r12 r14 r16 r17 r18
          refine wpList_nil ?_
          -- GER
          have hfin := hid (Below.next hB9.out hb hB9.out.size)
          clear hb hg
          go_wp2
          go_ret
          exact ⟨rfl, hfin.out⟩
end Go.Proofs.Ytbbhhjoohfkanaa.Lw
