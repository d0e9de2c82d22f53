/- DERIVED. The port's calls in short words, and the small helpers of the statements on ports: early, kind, the document's example. -/
import Derived.Test.YtnlmkllhmldgiaaQueueE
namespace Go.Proofs.Ytnlmkllhmldgiaa.Qu
set_option linter.unusedVariables false
set_option linter.unusedSimpArgs false
open Go.RowKit Go.Maps Go.Proofs.Ytnlmkllhmldgiaa.K Go.Proofs.Ytnlmkllhmldgiaa.Lb Go.Proofs.Ytnlmkllhmldgiaa.Wh
/-- A port, its own blocks from base on; its messages, who waits; at most N keys in its wheel. -/
def PortOk (w : World) (base pb : Nat) (hold : Int) (ps : List (Value × Msg)) (xs : List Int) (N : Nat) : Prop := ∃ wb mb lv rv n D s, PortAt w base pb wb mb hold lv rv ps xs n D s ∧ n ≤ N
/-- What is below base is kept. -/
def Keeps (base : Nat) (w w' : World) : Prop := ∀ B W0, Below B W0 w → B ≤ w.heap.size → B ≤ base → Below B W0 w'
section
variable {w : World} {base pb : Nat} {hold : Int} {ps : List (Value × Msg)} {xs : List Int} {N : Nat}
theorem PortOk.below {w' : World} (h : PortOk w base pb hold ps xs N) (hb : Below w.heap.size w w') : PortOk w' base pb hold ps xs N := by
  obtain ⟨wb, mb, lv, rv, n, D, s, hP, hn⟩ := h
  exact ⟨wb, mb, lv, rv, n, D, s, hP.below hb, hn⟩
theorem PortOk.mono {N' : Nat} (h : PortOk w base pb hold ps xs N) (hn : N ≤ N') : PortOk w base pb hold ps xs N' := by
  obtain ⟨wb, mb, lv, rv, n, D, s, hP, h1⟩ := h
  exact ⟨wb, mb, lv, rv, n, D, s, hP, by omega⟩
theorem Keeps.of_below {w' : World} (h : Below w.heap.size w w') : Keeps base w w' := fun _ _ h1 h2 _ => Below.next h1 h h2
theorem Keeps.of_chg {w' : World} {wb mb n : Nat} {lv rv : Value} {D : DataW Unit} {s : Int} (h : PortAt w base pb wb mb hold lv rv ps xs n D s) (hc : Chg (PMut pb wb mb lv rv) w w') : Keeps base w w' := fun _ _ h1 h2 h3 => h.toBelow h1 h2 h3 hc
theorem pNew (w : World) (hold : Int) : Calls Try.prog 9 #[.int .i64 hold] w fun e w' => ∃ pb, e = .returned (.pointer (some ⟨pb, 0, none⟩)) ∧ PortOk w' w.heap.size pb (holdT hold) [] [] 0 ∧ Below w.heap.size w w' :=
  (new_c w hold).mono fun e w' ⟨pb, wb, mb, he, hP, hb⟩ => ⟨pb, he, ⟨wb, mb, _, _, _, _, _, hP, Nat.le_refl _⟩, hb⟩
theorem pPutRow (h : PortOk w base pb hold ps xs N) (late seq : Int) {x : Int} {r : List Int} (hx : xs = x :: r) (hxi : isInt x) :
    Calls Try.prog 12 #[.pointer (some ⟨pb, 0, none⟩), .agg #[.slice none 0 0, .int .i64 0, .int .i64 0, .int .i64 late, .int .i64 seq]] w fun e w' => e = .returned (.tuple #[.int .i64 x, .bool true, .int .i64 0]) ∧ PortOk w' base pb hold ps (butT xs x) N ∧ Keeps base w w' := by
  obtain ⟨wb, mb, lv, rv, n, D, s, hP, hn⟩ := h
  exact (putRow_c hP (.slice none 0 0, ⟨[], 0, 0, late, seq⟩) ⟨none, 0, 0, rfl⟩ hx hxi).mono fun e w' ⟨he, rv', h1, h2, _⟩ => ⟨he, ⟨wb, mb, _, _, _, _, _, h1, hn⟩, Keeps.of_chg hP h2⟩
theorem pPutFull (h : PortOk w base pb hold ps [] N) (late seq : Int) (hf : (ps.length : Int) = hold) :
    Calls Try.prog 12 #[.pointer (some ⟨pb, 0, none⟩), .agg #[.slice none 0 0, .int .i64 0, .int .i64 0, .int .i64 late, .int .i64 seq]] w fun e w' => e = .returned (.tuple #[.int .i64 0, .bool false, .int .i64 10]) ∧ PortOk w' base pb hold ps [] N ∧ Keeps base w w' := by
  have h0 := h
  obtain ⟨wb, mb, lv, rv, n, D, s, hP, hn⟩ := h
  exact (putFull_c hP (.slice none 0 0, ⟨[], 0, 0, late, seq⟩) ⟨none, 0, 0, rfl⟩ hf).mono fun e w' ⟨he, hb⟩ => ⟨he, h0.below hb, Keeps.of_below hb⟩
theorem pPutAdd (h : PortOk w base pb hold ps [] N) (late seq : Int) (hf : (ps.length : Int) ≠ hold) (hsm : ps.length < 1000000) :
    Calls Try.prog 12 #[.pointer (some ⟨pb, 0, none⟩), .agg #[.slice none 0 0, .int .i64 0, .int .i64 0, .int .i64 late, .int .i64 seq]] w fun e w' => e = .returned (.tuple #[.int .i64 0, .bool false, .int .i64 0]) ∧ (∃ sv', PortOk w' base pb hold (ps ++ [(sv', ⟨[], 0, 0, late, seq⟩)]) [] N) ∧ Keeps base w w' := by
  obtain ⟨wb, mb, lv, rv, n, D, s, hP, hn⟩ := h
  exact (putAdd_c hP (.slice none 0 0, ⟨[], 0, 0, late, seq⟩) (IntsAt.nil (fun _ => True) w) (by simp) hf hsm).mono fun e w' ⟨he, lv', sv', h1, h2, _, _⟩ => ⟨he, ⟨sv', wb, mb, _, _, _, _, _, h1, hn⟩, Keeps.of_chg hP h2⟩
theorem pAskHas {sv : Value} {m : Msg} {r : List (Value × Msg)} (h : PortOk w base pb hold ((sv, m) :: r) [] N) (x u now : Int) :
    Calls Try.prog 10 #[.pointer (some ⟨pb, 0, none⟩), .int .i64 x, .int .i64 u, .int .i64 now] w fun e w' => (∃ a k c, sv = .slice a k c) ∧ e = .returned (.tuple #[.agg #[sv, .int .i64 m.lane, .int .i64 m.stamp, .int .i64 m.late, .int .i64 m.seq], .int .i64 0]) ∧ PortOk w' base pb hold r [] N ∧ Keeps base w w' := by
  obtain ⟨wb, mb, lv, rv, n, D, s, hP, hn⟩ := h
  exact (askHas_c hP x u now).mono fun e w' ⟨he, lv', h1, h2, h3, _⟩ => ⟨let ⟨a, c, e⟩ := h3.shape; ⟨a, _, c, e⟩, he, ⟨wb, mb, _, _, _, _, _, h1, hn⟩, Keeps.of_chg hP h2⟩
theorem pAskAdd (h : PortOk w base pb hold [] xs N) {x : Int} (u now : Int) (hx : x ∉ xs) (hxi : isInt x) (hlate : lateT now u = false) (hN : N < 1000000) (hxl : xs.length < 1000000) :
    Calls Try.prog 10 #[.pointer (some ⟨pb, 0, none⟩), .int .i64 x, .int .i64 u, .int .i64 now] w fun e w' => e = .returned (.tuple #[.agg #[.slice none 0 0, .int .i64 0, .int .i64 0, .int .i64 0, .int .i64 0], .int .i64 6]) ∧ PortOk w' base pb hold [] (xs ++ [x]) (N + 1) ∧ Keeps base w w' := by
  obtain ⟨wb, mb, lv, rv, n, D, s, hP, hn⟩ := h
  exact (askAdd_c hP u now hx hxi hlate (by omega) hxl).mono fun e w' ⟨he, rv', h1, h2, _⟩ => ⟨he, ⟨wb, mb, _, _, _, _, _, h1, by omega⟩, Keeps.of_chg hP h2⟩
theorem pWaits (h : PortOk w base pb hold ps xs N) (q : Int) : Calls Try.prog 19 #[.pointer (some ⟨pb, 0, none⟩), .int .i64 q] w fun e w' => e = .returned (.bool (decide (q ∈ xs))) ∧ w = w' := by
  obtain ⟨wb, mb, lv, rv, n, D, s, hP, hn⟩ := h
  exact waits_c hP q
theorem pLen (h : PortOk w base pb hold ps xs N) : Calls Try.prog 18 #[.pointer (some ⟨pb, 0, none⟩)] w fun e w' => e = .returned (.int .i64 ps.length) ∧ w = w' := by
  obtain ⟨wb, mb, lv, rv, n, D, s, hP, hn⟩ := h
  exact len_c hP
theorem pWaiting (h : PortOk w base pb hold ps xs N) (hx : xs.length ≤ 17592186044416) : Calls Try.prog 11 #[.pointer (some ⟨pb, 0, none⟩)] w fun e w' => ∃ v', e = .returned v' ∧ IntsAt (fun b => w.heap.size ≤ b) w' v' xs ∧ Below w.heap.size w w' := by
  obtain ⟨wb, mb, lv, rv, n, D, s, hP, hn⟩ := h
  exact waiting_c hP hx
end
def LivesPost (w : World) (e : Ending) (w' : World) : Prop := e = .returned (.bool true) ∧ Below w.heap.size w w'
set_option maxHeartbeats 2000000 in
theorem lives_c (w : World) : Calls Try.prog 8 #[] w (LivesPost w) := by
  have hl1 := hid (show lateT 3 9 = false from rfl)
  have h7 := hid (show decide ((7 : Int) ∈ [(7 : Int)]) = true from by simp)
  have hb7 := hid (show butT [7] 7 = [] from by simp [butT])
  have hh2 := hid (show (((([] : List (Value × Msg)).length : Nat) : Int)) ≠ holdT 2 from by unfold holdT; decide)
  go_enter Try.func8, Try.ntmps8
  go_wp2_with (first | (go_at_call 9; (with_reducible refine (pNew w 2).mono ?_); rintro e w1 ⟨pb, rfl, hP1, hb1⟩; have hz1 := hid hb1.size; have hP1 := hid hP1; have hb1 := hid hb1) | (go_at_call 10; (with_reducible refine (pAskAdd hP1.out 9 3 (x := 7) (by simp) (by unfold isInt; omega) hl1.out (by omega) (by simp)).mono ?_); rintro e w2 ⟨rfl, hP2, hk2⟩; have hb2 := hid (hk2 _ _ hb1.out hz1.out (Nat.le_refl _)); have hP2 := hid ((show PortOk w2 w.heap.size pb (holdT 2) [] [7] 1 from hP2).below ((Below.refl _ _).alloc (Nat.le_refl _) (.cells #[.slice none 0 0, .int .i64 0, .int .i64 0, .int .i64 0, .int .i64 0] 27))); have hb2 := hid (hb2.out.alloc (hb2.out.size) (.cells #[.slice none 0 0, .int .i64 0, .int .i64 0, .int .i64 0, .int .i64 0] 27)); have hz2 := hid (show w.heap.size ≤ (w2.alloc (.cells #[.slice none 0 0, .int .i64 0, .int .i64 0, .int .i64 0, .int .i64 0] 27)).heap.size from hb2.out.size); clear hk2; clear hP1) | (go_at_call 19; (with_reducible refine (pWaits hP2.out 7).mono ?_); rw [h7.out]; rintro e w' ⟨rfl, rfl⟩) | (go_at_call 12; (with_reducible refine (pPutRow hP2.out 0 1 (x := 7) (r := []) rfl (by unfold isInt; omega)).mono ?_); rintro e w3 ⟨rfl, hP3, hk3⟩; have hb3 := hid (hk3 _ _ hb2.out hz2.out (Nat.le_refl _)); have hz3 := hid hb3.out.size; have hP3 := hid (show PortOk w3 w.heap.size pb (holdT 2) [] [] 1 from by rw [hb7.out] at hP3; exact hP3); clear hk3; clear hP2) | (go_at_call 12; (with_reducible refine (pPutAdd hP3.out 0 2 hh2.out (by simp)).mono ?_); rintro e w4 ⟨rfl, ⟨sv, hP4⟩, hk4⟩; have hb4 := hid (hk4 _ _ hb3.out hz3.out (Nat.le_refl _)); have hz4 := hid hb4.out.size; have hP4 := hid (show PortOk w4 w.heap.size pb (holdT 2) ((sv, ⟨[], 0, 0, 0, 2⟩) :: []) [] 1 from hP4); clear hk4; clear hP3) | (go_at_call 10; (with_reducible refine (pAskHas hP4.out 7 0 3).mono ?_); rintro e w5 ⟨⟨asv, nsv, csv, rfl⟩, rfl, hP5, hk5⟩; have hb5 := hid ((hk5 _ _ hb4.out hz4.out (Nat.le_refl _))); have hP5 := hid hP5; clear hk5; clear hP4) | (go_at_call 18; (with_reducible refine (pLen (hP5.out.below ((Below.refl _ _).alloc (Nat.le_refl _) (.cells #[.slice asv nsv csv, .int .i64 0, .int .i64 0, .int .i64 0, .int .i64 2] 27)))).mono ?_); rintro e w' ⟨rfl, rfl⟩))
  go_ret
  exact ⟨rfl, hb5.out.alloc hb5.out.size _⟩

/-- A step: what it is, its process, until when, when; its message (the words stand in the value beside it). -/
structure St where
  k : Int
  p : Int
  u : Int
  n : Int
  m : Msg
def encS (q : Value × St) : List Value := [.int .i64 q.2.k, .int .i64 q.2.p, .int .i64 q.2.u, .int .i64 q.2.n, q.1, .int .i64 q.2.m.lane, .int .i64 q.2.m.stamp, .int .i64 q.2.m.late, .int .i64 q.2.m.seq]
def StepsAt (w : World) (v : Value) (qs : List (Value × St)) : Prop :=
  ∃ ao cap, v = .slice ao qs.length cap ∧ (qs.length ≤ cap ∧ cap ≤ maxLen) ∧ (∀ q ∈ qs, IntsAt (fun _ => True) w q.1 q.2.m.words) ∧ (qs = [] ∨ ∃ g o, ao = some ⟨g, o, none⟩ ∧ g < w.heap.size ∧ ∀ i (h : i < qs.length) j, j < 9 → w.cell? ⟨g, o + (i * 9 + j), none⟩ = (encS qs[i])[j]?)
theorem StepsAt.shape {w : World} {v : Value} {qs : List (Value × St)} (h : StepsAt w v qs) : ∃ ao cap, v = .slice ao qs.length cap := let ⟨ao, cap, hv, _⟩ := h; ⟨ao, cap, hv⟩
theorem StepsAt.below {w w' : World} {v : Value} {qs : List (Value × St)} (h : StepsAt w v qs) (hb : Below w.heap.size w w') : StepsAt w' v qs := by
  obtain ⟨ao, cap, hv, hl, hw, hx⟩ := h
  refine ⟨ao, cap, hv, hl, fun q hq => (hw q hq).below hb, ?_⟩
  rcases hx with hx | ⟨g, o, h1, h2, h3⟩
  · exact .inl hx
  · exact .inr ⟨g, o, h1, Nat.lt_of_lt_of_le h2 hb.size, fun i hi j hj => (hb.cell (p := ⟨g, o + (i * 9 + j), none⟩) h2).trans (h3 i hi j hj)⟩
theorem StepsAt.cells {w : World} {ao : Option Addr} {n cap : Nat} {qs : List (Value × St)} (h : StepsAt w (.slice ao n cap) qs) : n = qs.length ∧ n ≤ cap ∧ cap ≤ 9223372036854775807 ∧ ∀ i (hi : i < qs.length), ∃ g o, ao = some ⟨g, o, none⟩ ∧ g < w.heap.size ∧ (∃ a k c, qs[i].1 = .slice a k c) ∧ IntsAt (fun _ => True) w qs[i].1 qs[i].2.m.words ∧
    w.cell? ⟨g, o + i * 9, none⟩ = some (.int .i64 qs[i].2.k) ∧ w.cell? ⟨g, o + i * 9 + 1, none⟩ = some (.int .i64 qs[i].2.p) ∧ w.cell? ⟨g, o + i * 9 + 2, none⟩ = some (.int .i64 qs[i].2.u) ∧ w.cell? ⟨g, o + i * 9 + 3, none⟩ = some (.int .i64 qs[i].2.n) ∧ w.cell? ⟨g, o + i * 9 + 4, none⟩ = some qs[i].1 ∧
    w.cell? ⟨g, o + i * 9 + 5, none⟩ = some (.int .i64 qs[i].2.m.lane) ∧ w.cell? ⟨g, o + i * 9 + 6, none⟩ = some (.int .i64 qs[i].2.m.stamp) ∧ w.cell? ⟨g, o + i * 9 + 7, none⟩ = some (.int .i64 qs[i].2.m.late) ∧ w.cell? ⟨g, o + i * 9 + 8, none⟩ = some (.int .i64 qs[i].2.m.seq) := by
  obtain ⟨ao', cap', hv, ⟨h1, h2⟩, hw, hx⟩ := h
  simp only [Value.slice.injEq] at hv
  obtain ⟨rfl, rfl, rfl⟩ := hv
  refine ⟨rfl, h1, by simpa [maxLen] using h2, fun i hi => ?_⟩
  rcases hx with rfl | ⟨g, o, h3, h5, h6⟩
  · simp at hi
  · have hwi := hw _ (List.getElem_mem hi)
    have h7 := h6 i hi
    exact ⟨g, o, h3, h5, (let ⟨a, c, e⟩ := hwi.shape; ⟨a, _, c, e⟩), hwi, h7 0 (by omega), h7 1 (by omega), h7 2 (by omega), h7 3 (by omega), h7 4 (by omega), h7 5 (by omega), h7 6 (by omega), h7 7 (by omega), h7 8 (by omega)⟩
theorem early_c {w0 : World} (w : World) {v : Value} {l : List (Value × St)} (h : StepsAt w0 v l) : Calls Try.prog 14 #[v] w fun e w' => ∃ v', e = .returned v' ∧ StepsAt w0 v' (l.take 80) ∧ w = w' := by
  obtain ⟨ao, cap, rfl, ⟨hlc, hcm⟩, hw, hx⟩ := h
  have hcm' := hid hcm
  unfold maxLen at hcm
  have hmin := @minTwo
  have hmn : min (l.length : Int) 80 ≤ cap := by omega
  have hmz : 0 ≤ min (l.length : Int) 80 := by omega
  have hx' := hid hx
  have hw' := hid hw
  clear hx hw
  go_enter Try.func14, Try.ntmps14
  go_wp2
  go_ret
  refine ⟨.slice ao (l.take 80).length cap, ?_, ⟨ao, cap, rfl, ⟨by simp; omega, hcm'.out⟩, fun q hq => hw'.out q (List.mem_of_mem_take hq), ?_⟩, rfl⟩
  · show Ending.returned (.slice ao _ cap) = _
    congr 2; simp; omega
  · rcases hx'.out with rfl | ⟨g, o, h3, h5, h6⟩
    · exact .inl (by simp)
    · exact .inr ⟨g, o, h3, h5, fun i hi j hj => by have := h6 i (by simp at hi; omega) j hj; simpa using this⟩
def kindT (k : Int) : Int := (k % 18446744073709551616) % 9
theorem kindT_lt (k : Int) : 0 ≤ kindT k ∧ kindT k < 9 := by unfold kindT; omega
theorem kind_c (w : World) (q : St) (a : Option Addr) (n c : Nat) : Calls Try.prog 15 #[.agg #[.int .i64 q.k, .int .i64 q.p, .int .i64 q.u, .int .i64 q.n, .slice a n c, .int .i64 q.m.lane, .int .i64 q.m.stamp, .int .i64 q.m.late, .int .i64 q.m.seq]] w fun e w' => e = .returned (.int .i64 (kindT q.k)) ∧ Below w.heap.size w w' := by
  go_enter Try.func15, Try.ntmps15
  go_wp2
  go_ret
  exact ⟨rint (by rw [IntKind.wrap_u64, Int.tmod_eq_emod_of_nonneg (by omega)]; unfold wrap64 kindT; omega), (Below.refl _ _).alloc (Nat.le_refl _) _⟩
end Go.Proofs.Ytnlmkllhmldgiaa.Qu
