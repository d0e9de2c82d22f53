/- DERIVED. A port in memory, and the walk over away: processes that wait no more. -/
import Derived.Test.YtnlmkllhmldgiaaQueueA
import Derived.Test.YtnlmkllhmldgiaaWheelW
import Derived.Deep.LoopGhost
namespace Go.Proofs.Ytnlmkllhmldgiaa.Qu
set_option linter.unusedVariables false
set_option linter.unusedSimpArgs false
open Go.RowKit Go.Maps Go.Proofs.Ytnlmkllhmldgiaa.K Go.Proofs.Ytnlmkllhmldgiaa.Lb Go.Proofs.Ytnlmkllhmldgiaa.Wh

/-- The blocks that a port's calls may write. -/
def PMut (pb wb mb : Nat) (lv rv : Value) : Nat → Prop := fun b => b = pb ∨ b = wb ∨ b = mb ∨ lv.ownBlock = some b ∨ rv.ownBlock = some b
theorem own_at {w : World} {base : Nat} {T : TypeId} {k n : Nat} {v : Value} {xs : List Value} (h : w.ownsRow base T k v n xs) {b : Nat} (hb : v.ownBlock = some b) : ∃ cs, w.heap[b]? = some (.cells cs T (0, 0)) := by
  rcases h.2 with ⟨rfl, _⟩ | ⟨g, cap, cur, rfl, _, hh, _⟩
  · cases hb
  · simp only [Value.ownBlock, Option.some.injEq] at hb
    subst hb
    exact ⟨cur, hh⟩
theorem pts_ne {w : World} {a b : Nat} {cs ds : List Value} {T T' : TypeId} (h1 : pts w a cs T) (h2 : pts w b ds T') (hT : T ≠ T') : a ≠ b := by
  intro e; subst e
  unfold pts at h1 h2
  rw [h1] at h2
  simp only [Option.some.injEq, Obj.cells.injEq] at h2
  exact hT h2.2.1
/-- A port: its struct's block pb; its wheel; its messages ps; who waits, xs. -/
structure PortAt (w : World) (base pb wb mb : Nat) (hold : Int) (lv rv : Value) (ps : List (Value × Msg)) (xs : List Int) (n : Nat) (D : DataW Unit) (s : Int) : Prop where
  at_ : pts w pb [.pointer (some ⟨wb, 0, none⟩), .int .i64 hold, lv, rv] 72
  wh : WheelAt w wb mb n D s
  l : w.ownsRow base 27 5 lv ps.length (flat encM ps)
  row : w.ownsRow base 3 1 rv xs.length (xs.map (Value.int .i64))
  words : WordsIn (fun b => ¬ PMut pb wb mb lv rv b) w ps
  ge : base ≤ pb ∧ base ≤ wb ∧ base ≤ mb
section
variable {w : World} {base pb wb mb : Nat} {hold : Int} {lv rv : Value} {ps : List (Value × Msg)} {xs : List Int} {n : Nat} {D : DataW Unit} {s : Int}
theorem PortAt.map_ne (h : PortAt w base pb wb mb hold lv rv ps xs n D s) {b : Nat} {cs : Array Value} {T : TypeId} (hb : w.heap[b]? = some (.cells cs T (0, 0))) : b ≠ mb := by
  intro e; subst e
  obtain ⟨es, clock, hm, _⟩ := h.wh.map
  rw [hm] at hb; cases hb
/-- The blocks of a port stand apart. -/
theorem PortAt.apart (h : PortAt w base pb wb mb hold lv rv ps xs n D s) : pb ≠ wb ∧ pb ≠ mb ∧ wb ≠ mb ∧ (∀ b, lv.ownBlock = some b → b ≠ pb ∧ b ≠ wb ∧ b ≠ mb) ∧ (∀ b, rv.ownBlock = some b → b ≠ pb ∧ b ≠ wb ∧ b ≠ mb) ∧ (∀ b, lv.ownBlock = some b → rv.ownBlock ≠ some b) := by
  have hw := h.wh.at_
  have hp := h.at_
  refine ⟨pts_ne hp hw (by decide), h.map_ne hp, h.wh.ne, fun b hb => ?_, fun b hb => ?_, fun b hb hb2 => ?_⟩
  · obtain ⟨cs, hc⟩ := own_at h.l hb
    exact ⟨pts_ne (cs := cs.toList) (by simpa [pts] using hc) hp (by decide), pts_ne (cs := cs.toList) (by simpa [pts] using hc) hw (by decide), h.map_ne hc⟩
  · obtain ⟨cs, hc⟩ := own_at h.row hb
    exact ⟨pts_ne (cs := cs.toList) (by simpa [pts] using hc) hp (by decide), pts_ne (cs := cs.toList) (by simpa [pts] using hc) hw (by decide), h.map_ne hc⟩
  · obtain ⟨cs, hc⟩ := own_at h.l hb
    obtain ⟨ds, hd⟩ := own_at h.row hb2
    rw [hc] at hd
    simp only [Option.some.injEq, Obj.cells.injEq] at hd
    have : (27 : Nat) = 3 := hd.2.1
    cases this
theorem PortAt.mut_ge (h : PortAt w base pb wb mb hold lv rv ps xs n D s) {b : Nat} (hb : PMut pb wb mb lv rv b) : base ≤ b := by
  have hg := h.ge
  rcases hb with rfl | rfl | rfl | hb | hb
  · exact hg.1
  · exact hg.2.1
  · exact hg.2.2
  · exact own_block_ge h.l b hb
  · exact own_block_ge h.row b hb
theorem PortAt.mut_lt (h : PortAt w base pb wb mb hold lv rv ps xs n D s) {b : Nat} (hb : PMut pb wb mb lv rv b) : b < w.heap.size := by
  rcases hb with rfl | rfl | rfl | hb | hb
  · exact h.at_.lt
  · exact h.wh.lt.1
  · exact h.wh.lt.2
  · obtain ⟨cs, hc⟩ := own_at h.l hb; exact (Array.getElem?_eq_some_iff.1 hc).1
  · obtain ⟨cs, hc⟩ := own_at h.row hb; exact (Array.getElem?_eq_some_iff.1 hc).1
theorem own_of {w w' : World} {base : Nat} {T : TypeId} {k n : Nat} {v : Value} {cs : List Value} (h : w.ownsRow base T k v n cs) (e : ∀ b, v.ownBlock = some b → w'.heap[b]? = w.heap[b]?) : w'.ownsRow base T k v n cs := by
  refine ⟨h.1, ?_⟩
  rcases h.2 with h1 | ⟨g, cap, cur, rfl, h2, hh, h3⟩
  · exact .inl h1
  · exact .inr ⟨g, cap, cur, rfl, h2, (e g rfl).trans hh, h3⟩
theorem PortAt.below {w' : World} (h : PortAt w base pb wb mb hold lv rv ps xs n D s) (hb : Below w.heap.size w w') : PortAt w' base pb wb mb hold lv rv ps xs n D s :=
  ⟨h.at_.below hb, h.wh.below hb, own_of h.l (fun b e => hb.block b (h.mut_lt (.inr (.inr (.inr (.inl e)))))), own_of h.row (fun b e => hb.block b (h.mut_lt (.inr (.inr (.inr (.inr e)))))), h.words.below hb, h.ge⟩
/-- A call's change of the port's blocks leaves what is below base. -/
theorem PortAt.toBelow {w0 w' : World} {B : Nat} (h : PortAt w base pb wb mb hold lv rv ps xs n D s) (hB : Below B w0 w) (hBs : B ≤ w.heap.size) (hBb : B ≤ base) (hc : Chg (PMut pb wb mb lv rv) w w') : Below B w0 w' :=
  hB.trans (hc.toBelow hBs (fun i hi => Nat.le_trans hBb (h.mut_ge hi)))
theorem own_shape {w : World} {base : Nat} {T : TypeId} {k n : Nat} {v : Value} {cs : List Value} (h : w.ownsRow base T k v n cs) : ∃ ao cap, v = .slice ao n cap := by
  rcases h.2 with ⟨rfl, rfl⟩ | ⟨g, cap, cur, rfl, _⟩
  · exact ⟨_, _, rfl⟩
  · exact ⟨_, _, rfl⟩
/-- Behind Cancel and DeleteFunc, and the row stored. -/
theorem PortAt.awayStep {w2 w3 : World} (h : PortAt w base pb wb mb hold lv rv ps xs n D s) {D' : DataW Unit} {s' : Int} {n' : Nat} (hw : WheelAt w2 wb mb n' D' s') (hc : Chg (WM wb mb) w w2) {v' : Value} {ys : List Int} (hr : w3.ownsRow base 3 1 v' ys.length (ys.map (Value.int .i64))) (hd : Chg (fun c => rv.ownBlock = some c) w2 w3) (hv : ∀ c, v'.ownBlock = some c → rv.ownBlock = some c) :
    PortAt (w3.setCell ⟨pb, 3, none⟩ v') base pb wb mb hold lv v' ps ys n' D' s' ∧ Chg (PMut pb wb mb lv rv) w (w3.setCell ⟨pb, 3, none⟩ v') := by
  obtain ⟨a1, a2, a3, a4, a5, a6⟩ := h.apart
  have e2 : ∀ b, b < w.heap.size → b ≠ wb → b ≠ mb → w2.heap[b]? = w.heap[b]? := fun b hb h1 h2 => hc.block b hb (fun h => by rcases h with h | h <;> contradiction)
  have e3 : ∀ b, b < w.heap.size → b ≠ wb → b ≠ mb → rv.ownBlock ≠ some b → w3.heap[b]? = w.heap[b]? := fun b hb h1 h2 h3 => (hd.block b (Nat.lt_of_lt_of_le hb hc.size) h3).trans (e2 b hb h1 h2)
  have hp3 : pts w3 pb [.pointer (some ⟨wb, 0, none⟩), .int .i64 hold, lv, rv] 72 := h.at_.of (e3 pb h.at_.lt a1 a2 (fun h => (a5 pb h).1 rfl))
  have hC : Chg (PMut pb wb mb lv rv) w w3 := (hc.mono (fun i hi => by rcases hi with rfl | rfl; exact .inr (.inl rfl); exact .inr (.inr (.inl rfl)))).trans hd (fun i hi => .inl (.inr (.inr (.inr (.inr hi)))))
  refine ⟨⟨by simpa using hp3.set 3 v', ?_, ?_, ?_, ?_, h.ge⟩, hC.setB (.inl rfl)⟩
  · have hw3 : WheelAt w3 wb mb n' D' s' := hw.chg hd (fun h => (a5 wb h).2.1 rfl) (fun h => (a5 mb h).2.2 rfl)
    exact hw3.kept (Below.heap_setCell _ _ _ _ (Ne.symm a1)) (Below.heap_setCell _ _ _ _ (Ne.symm a2))
  · refine own_of (own_of h.l (fun b e => e3 b (h.mut_lt (.inr (.inr (.inr (.inl e))))) (a4 b e).2.1 (a4 b e).2.2 (a6 b e))) (fun b e => Below.heap_setCell _ _ _ _ (a4 b e).1)
  · exact own_of hr (fun b e => Below.heap_setCell _ _ _ _ (a5 b (hv b e)).1)
  · refine ((h.words.kept (w' := w3.setCell ⟨pb, 3, none⟩ v') (by simpa using hC.size) (fun b hb hlt => ?_))).mono (fun b hb _ hm => hb ?_)
    · rw [Below.heap_setCell _ _ _ _ (fun e => hb (.inl e))]
      exact hC.block b hlt hb
    · rcases hm with rfl | rfl | rfl | hm | hm
      · exact .inl rfl
      · exact .inr (.inl rfl)
      · exact .inr (.inr (.inl rfl))
      · exact .inr (.inr (.inr (.inl hm)))
      · exact .inr (.inr (.inr (.inr (hv b hm))))
theorem foldl_take {α : Type} {l : List Int} {k : Nat} (f : α → Int → α) (a : α) (h : k < l.length) : (l.take (k + 1)).foldl f a = f ((l.take k).foldl f a) l[k] := by
  rw [List.take_succ_eq_append_getElem h, List.foldl_append]; rfl
theorem Chg.ofDrew {M : Nat → Prop} {w w' : World} (h : Chg M w.drew w') : Chg M w w' := ⟨h.os, h.tape, h.output, h.size, h.block⟩
theorem PMut.of_row {pb wb mb : Nat} {lv rv rv' : Value} {b : Nat} (h : PMut pb wb mb lv rv' b) (hv : ∀ c, rv'.ownBlock = some c → rv.ownBlock = some c) : PMut pb wb mb lv rv b := by
  rcases h with h | h | h | h | h
  · exact .inl h
  · exact .inr (.inl h)
  · exact .inr (.inr (.inl h))
  · exact .inr (.inr (.inr (.inl h)))
  · exact .inr (.inr (.inr (.inr (hv b h))))
def AwayPost (w : World) (base pb wb mb : Nat) (hold : Int) (lv rv : Value) (ps : List (Value × Msg)) (xs : List Int) (n : Nat) (D : DataW Unit) (s : Int) (zs : List Int) (e : Ending) (w' : World) : Prop :=
  e = .returned (.tuple #[]) ∧ ∃ rv', PortAt w' base pb wb mb hold lv rv' ps (zs.foldl butT xs) n (zs.foldl (fun D z => D.del (.int .i64 z)) D) s ∧ Chg (PMut pb wb mb lv rv) w w' ∧ (∀ c, rv'.ownBlock = some c → rv.ownBlock = some c)
set_option maxHeartbeats 1000000 in
theorem away_c (h : PortAt w base pb wb mb hold lv rv ps xs n D s) {zv : Value} {zs : List Int} (hz : IntsAt (fun b => ¬ PMut pb wb mb lv rv b) w zv zs) (hzi : ∀ z ∈ zs, isInt z) :
    Calls Try.prog 37 #[.pointer (some ⟨pb, 0, none⟩), zv] w (AwayPost w base pb wb mb hold lv rv ps xs n D s zs) := by
  obtain ⟨az, cz, rfl⟩ := hz.shape
  obtain ⟨-, hl, hm, hget⟩ := hz.get
  have h0 := hid h
  have hget := hid hget
  have hzi := hid hzi
  clear h hz
  go_enter Try.func37, Try.ntmps37
  go_wp2
  go_loopg [8] zs.length (fun g i wr => ∃ (k : Nat) (rv' : Value), k ≤ zs.length ∧ g = zs.length - k ∧ i = .int .i64 k ∧ PortAt wr base pb wb mb hold lv rv' ps ((zs.take k).foldl butT xs) n ((zs.take k).foldl (fun D z => D.del (.int .i64 z)) D) s ∧ Chg (PMut pb wb mb lv rv) w wr ∧ (∀ c, rv'.ownBlock = some c → rv.ownBlock = some c))
  case atStart => exact ⟨0, rv, Nat.zero_le _, rfl, rfl, h0.out, Chg.refl _ _, fun c h => h⟩
  case round =>
    obtain ⟨k, rv', hk, hgk, rfl, hP, hC, hv⟩ := hrel
    by_cases hlt : k < zs.length
    · obtain ⟨g, o, rfl, hgm, hg, ck⟩ := hget.out k hlt
      have ck : wr.cell? ⟨g, o + k, none⟩ = some (.int .i64 zs[k]) := (World.cell?_of_block (a := ⟨g, o + k, none⟩) (hC.block g hg hgm)).trans ck
      have hzk := hzi.out _ (List.getElem_mem hlt)
      have ek : (zs.take (k + 1)).foldl butT xs = butT ((zs.take k).foldl butT xs) zs[k] := foldl_take _ _ hlt
      have ed : (zs.take (k + 1)).foldl (fun D z => D.del (.int .i64 z)) D = ((zs.take k).foldl (fun D z => D.del (.int .i64 z)) D).del (.int .i64 zs[k]) := foldl_take _ _ hlt
      go_upto_region 3 with fail
      have hb1 := (Below.refl wr.heap.size wr).alloc (Nat.le_refl _) (.cells #[.int .i64 zs[k]] 3)
      have hP1 := hP.below hb1
      have hC1 := hC.below hb1
      have hq1 : pts (wr.alloc (.cells #[.int .i64 zs[k]] 3)) wr.heap.size [.int .i64 zs[k]] 3 := pts.newA wr _ _
      have hcne : ∀ b, PMut pb wb mb lv rv' b → wr.heap.size ≠ b := fun b hb => by have := hP.mut_lt hb; omega
      generalize wr.alloc (.cells #[.int .i64 zs[k]] 3) = W1 at hP1 hC1 hq1 ⊢
      generalize wr.heap.size = cb at hq1 hcne ⊢
      clear hb1 hP hC ck
      have c0 := hP1.at_.cell 0
      have c1 := hq1.cell 0
      simp only [List.getElem?_cons_zero] at c0 c1
      generalize zs[k] = z at hzk ek ed hq1 c1 ⊢
      generalize (zs.take k).foldl butT xs = xs1 at hP1 ek ⊢
      generalize (zs.take k).foldl (fun D z => D.del (.int .i64 z)) D = D1 at hP1 ed ⊢
      have hPd : PortAt W1.drew base pb wb mb hold lv rv' ps xs1 n D1 s := hP1.below (Below.refl _ _).drew
      obtain ⟨a1, a2, a3, a4, a5, a6⟩ := hP1.apart
      have a1 := hid a1
      have a2 := hid a2
      have a3 := hid a3
      have a4 := hid a4
      have a5 := hid a5
      have a6 := hid a6
      have hcne := hid hcne
      have hcl := hid hq1.lt
      have hpl := hid hP1.at_.lt
      have hP1 := hid hP1
      have hPd := hid hPd
      have hC1 := hid hC1
      have hq1 := hid hq1
      have ek := hid ek
      have ed := hid ed
      go_region_held3 (fun W => W.cell? ⟨pb, 0, none⟩ = some (.pointer (some ⟨wb, 0, none⟩)) ∧ W.cell? ⟨cb, 0, none⟩ = some (.int .i64 z))
        (first | go_keep | ((try dsimp only); (repeat' apply And.intro) <;> go_keep))
        (first | (go_at_call 44; (with_reducible refine (cancel_c hPd.out.wh hzk).mono ?_); rintro e w2 ⟨rfl, hw2, hc2⟩; have hp2 := hPd.out.at_.chg hc2 (fun h => by rcases h with h | h; exact a1.out h; exact a2.out h); have hq2 := pts.chg (w := W1.drew) hq1.out hc2 (fun h => by rcases h with h | h; exact hcne.out _ (.inr (.inl rfl)) h; exact hcne.out _ (.inr (.inr (.inl rfl))) h); have p0 := hp2.cell 0; have p3 := hp2.cell 3; have q2 := hq2.cell 0; have hr2 := own_of hPd.out.row (fun b e => hc2.block b (hPd.out.mut_lt (.inr (.inr (.inr (.inr e))))) (fun h => by rcases h with rfl | rfl; exact (a5.out _ e).2.1 rfl; exact (a5.out _ e).2.2 rfl)); simp only [List.getElem?_cons_zero, List.getElem?_cons_succ] at p0 p3 q2; have q2l := hq2.lt; have hr2 := hid hr2; have hw2 := hid hw2; have hc2 := hid hc2; have hp2 := hid hp2))
      have hbv := hid (fun (e : rv'.ownBlock = some cb) => hcne.out cb (.inr (.inr (.inr (.inr e)))) rfl)
      go_wp2_with (first | (go_at_call 45; (with_reducible refine (deleteFunc_c hr2.out q2 q2l hbv.out).mono ?_); rintro e w3 ⟨v', rfl, hr3, hc3, hv3⟩; obtain ⟨av, cv, rfl⟩ := own_shape hr3; have hp3 := hp2.out.chg hc3 (fun h => (a5.out pb h).1 rfl); have s3 := hp3.cell 3; have sf := hp3.frozen 3; have sl := hp3.lt; simp only [List.getElem?_cons_zero, List.getElem?_cons_succ] at s3; have hS := hid (hPd.out.awayStep hw2.out hc2.out hr3 hc3 hv3); have hv3 := hid hv3; clear hr3 hc3 hp3))
      go_roundg (zs.length - (k + 1))
      case rel => exact ⟨k + 1, _, by omega, rfl, by go_num, by rw [ek.out, ed.out]; exact hS.out.1, hC1.out.trans (Chg.ofDrew hS.out.2) (fun i hi => .inl (hi.of_row hv)), fun c h => hv c (hv3.out c h)⟩
      case measure => omega
    · obtain rfl : k = zs.length := by omega
      rw [List.take_length] at hP
      have hfin := hid (show ∃ rv', PortAt wr base pb wb mb hold lv rv' ps (zs.foldl butT xs) n (zs.foldl (fun D z => D.del (.int .i64 z)) D) s ∧ Chg (PMut pb wb mb lv rv) w wr ∧ (∀ c, rv'.ownBlock = some c → rv.ownBlock = some c) from ⟨rv', hP, hC, hv⟩)
      clear hP hC
      go_wp2
      go_end0
      exact ⟨rfl, hfin.out⟩
end
end Go.Proofs.Ytnlmkllhmldgiaa.Qu
