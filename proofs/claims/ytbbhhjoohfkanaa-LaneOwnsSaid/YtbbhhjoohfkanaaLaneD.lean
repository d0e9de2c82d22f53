/- DERIVED. Walks over lanes: Room, Peek, Put. No statement is proved here. -/
import Derived.Test.YtbbhhjoohfkanaaLaneC
import Derived.Deep.RegionLaw
import Derived.Deep.AppendLies
namespace Go.Proofs.Ytbbhhjoohfkanaa.La
set_option linter.unusedVariables false
set_option linter.unusedSimpArgs false
open Go.RowKit Go.Proofs.Ytbbhhjoohfkanaa.K Go.Proofs.Ytbbhhjoohfkanaa.Sp Go.Proofs.Ytbbhhjoohfkanaa.Lb Go.Proofs.Ytbbhhjoohfkanaa.So
section
variable {w w' : World} {M : Nat → Prop} {lb : Nat} {ln pl : Int} {ms : List Msg}
def roomT (ln pl : Int) (ms : List Msg) (k : Int) : Int := if isT ln k then pl - (ofM k ms).length else 0
def RoomPost (w : World) (r : Int) (e : Ending) (w' : World) : Prop := e = .returned (.int .i64 r) ∧ Below w.heap.size w w'
theorem room_nil (w : World) (k : Int) : Calls Try.prog 15 #[.pointer none, .int .i64 k] w fun e w' => e = .returned (.int .i64 0) ∧ w = w' := by
  go_enter Try.func15, Try.ntmps15
  go_wp2_with (first | (go_at_call 36; (with_reducible refine (is_nil _ _).mono ?_); rintro e w1 ⟨rfl, rfl⟩))
  go_ret
  exact ⟨rfl, rfl⟩
set_option maxHeartbeats 1000000 in
theorem room_c (h : LanesM w M lb ln pl ms) (k : Int) : Calls Try.prog 15 #[.pointer (some ⟨lb, 0, none⟩), .int .i64 k] w (RoomPost w (roomT ln pl ms k)) := by
  have h0 := h
  obtain ⟨lv, ps, hps, hl⟩ := h
  obtain ⟨c0, c1, c2, f2, hlt⟩ := hl.cells
  have hir : Hid (roomT ln pl ms k = if isT ln k then pl - (ofM k ms).length else 0) := hid rfl
  have hpb := hl.inv.p
  have hfl : ((ofM k ms).length : Int) ≤ 24 := by have := h0.inv.len; have h2 := List.length_filter_le (fun m : Msg => m.lane == k) ms; unfold ofM; omega
  have hwr : IntKind.i64.wrap (pl - ((ofM k ms).length : Int)) = pl - (ofM k ms).length := IntWalk.i64_in _ (by omega)
  have his := is_c h0 k
  have hof := hid (fun (w : World) (h : LanesM w M lb ln pl ms) => of_c h k)
  have hld := hid (h0.below (w' := w.drew) (Below.refl _ _).drew)
  replace hl := hid hl
  replace hps := hid hps
  replace h0 := hid h0
  cases hi : isT ln k with
  | false =>
    rw [hi] at his hir
    replace hi := hid hi
    replace his := hid his
    go_enter Try.func15, Try.ntmps15
    go_wp2_with (first | (go_at_call 36; (with_reducible refine (his.out).mono ?_); rintro e w1 ⟨rfl, rfl⟩))
    go_ret
    exact ⟨by rw [hir.out] <;> rfl, Below.refl _ _⟩
  | true =>
    rw [hi] at his hir
    replace hi := hid hi
    replace his := hid his
    go_enter Try.func15, Try.ntmps15
    go_upto_region 3 with (first | (go_at_call 36; (with_reducible refine (his.out).mono ?_); rintro e w1 ⟨rfl, rfl⟩))
    go_region_held3 (fun W => W.cell? ⟨lb, 1, none⟩ = some (.int .i64 pl))
      (first | go_keep | ((try dsimp only); (repeat' apply And.intro) <;> go_keep))
      (first | (go_at_call 32; (with_reducible refine (hof.out w.drew hld.out).mono ?_); rintro e w2 ⟨v2, rfl, hm2, hb2⟩; obtain ⟨a2, k2, rfl⟩ := hm2.shape; replace hb2 := Below.ofDrew hb2; have y1 := (hb2.cell (p := ⟨lb, 1, none⟩) hlt).trans c1; replace hm2 := hid hm2; replace hb2 := hid hb2))
    go_wp2
    go_ret
    exact ⟨by rw [hir.out] <;> rfl, hb2.out⟩
theorem peek_nilR (w : World) : Calls Try.prog 26 #[.pointer none] w fun e w' => e = .returned (.tuple #[.agg #[.slice none 0 0, .int .i64 0, .int .i64 0, .int .i64 0, .int .i64 0], .bool false]) ∧ Below w.heap.size w w' := by
  have hb1 := (Below.refl w.heap.size w).alloc (Nat.le_refl _) (.cells #[.slice none 0 0, .int .i64 0, .int .i64 0, .int .i64 0, .int .i64 0] 30)
  go_enter Try.func26, Try.ntmps26
  go_wp2_with (first | (go_at_call 17; (with_reducible refine (all_nil _).mono ?_); rintro e w1 ⟨rfl, rfl⟩))
  refine bodyPost_ret (v := .tuple #[.agg #[.slice none 0 0, .int .i64 0, .int .i64 0, .int .i64 0, .int .i64 0], .bool false]) (by simp [results, Try.results26, go_sem]) rfl ⟨rfl, ?_⟩
  exact hb1
set_option maxHeartbeats 1000000 in
theorem peek_none (h : LanesM w M lb ln pl ms) (he : ms = []) : Calls Try.prog 26 #[.pointer (some ⟨lb, 0, none⟩)] w fun e w' => e = .returned (.tuple #[.agg #[.slice none 0 0, .int .i64 0, .int .i64 0, .int .i64 0, .int .i64 0], .bool false]) ∧ Below w.heap.size w w' := by
  have hb1 := (Below.refl w.heap.size w).alloc (Nat.le_refl _) (.cells #[.slice none 0 0, .int .i64 0, .int .i64 0, .int .i64 0, .int .i64 0] 30)
  have hz1 := pts.newA w #[.slice none 0 0, .int .i64 0, .int .i64 0, .int .i64 0, .int .i64 0] 30
  have hall := all_r (h.below hb1)
  have hl0 := hid (show (sortM ms).length = 0 by rw [he]; rfl)
  replace he := hid he
  replace hall := hid hall
  replace hb1 := hid hb1
  replace hz1 := hid hz1
  replace h := hid h
  go_enter Try.func26, Try.ntmps26
  go_wp2_with (first | (go_at_call 17; (with_reducible refine (hall.out).mono ?_); rintro e w1 ⟨v1, rfl, hm1, hbb1⟩; obtain ⟨a1, c1, rfl⟩ := hm1.shape; rw [hl0.out]; have hz2 := hz1.out.below hbb1; have y0 := hz2.cell 0; have y1 := hz2.cell 1; have y2 := hz2.cell 2; have y3 := hz2.cell 3; have y4 := hz2.cell 4; have yl := hz2.lt; have fz := fun o => hz2.frozen o; simp only [List.getElem?_cons_zero, List.getElem?_cons_succ] at y0 y1 y2 y3 y4; replace hbb1 := hid (Below.next hb1.out hbb1 (by simp)); clear hz2; clear hm1))
  refine bodyPost_ret (v := .tuple #[.agg #[.slice none 0 0, .int .i64 0, .int .i64 0, .int .i64 0, .int .i64 0], .bool false]) (by simp [results, Try.results26, go_sem, y0, y1, y2, y3, y4, yl]) rfl ⟨rfl, ?_⟩
  exact ((((hbb1.out.setCell (Nat.le_refl _) _).setCell (Nat.le_refl _) _).setCell (Nat.le_refl _) _).setCell (Nat.le_refl _) _).setCell (Nat.le_refl _) _
/-- A message in hand: its words lie in new memory. -/
def HandPost (w : World) (ok : World → Nat → Prop) (m : Msg) (e : Ending) (w' : World) : Prop :=
  ∃ a c, e = .returned (.tuple #[.agg #[.slice a m.words.length c, .int .i64 m.lane, .int .i64 m.stamp, .int .i64 m.late, .int .i64 m.seq], .bool true]) ∧ IntsAt (ok w') w' (.slice a m.words.length c) m.words
set_option maxHeartbeats 1000000 in
theorem peek_some (h : LanesM w M lb ln pl ms) {m : Msg} {r : List Msg} (he : sortM ms = m :: r) : Calls Try.prog 26 #[.pointer (some ⟨lb, 0, none⟩)] w fun e w' => HandPost w (fun _ b => w.heap.size ≤ b) m e w' ∧ Below w.heap.size w w' := by
  have hb1 := (Below.refl w.heap.size w).alloc (Nat.le_refl _) (.cells #[.slice none 0 0, .int .i64 0, .int .i64 0, .int .i64 0, .int .i64 0] 30)
  have hz1 := pts.newA w #[.slice none 0 0, .int .i64 0, .int .i64 0, .int .i64 0, .int .i64 0] 30
  have hall := all_r (h.below hb1)
  rw [he] at hall
  replace he := hid he
  replace hall := hid hall
  replace hb1 := hid hb1
  replace hz1 := hid hz1
  replace h := hid h
  go_enter Try.func26, Try.ntmps26
  go_wp2_with (first | (go_at_call 17; (with_reducible refine (hall.out).mono ?_); rintro e w1 ⟨v1, rfl, ⟨qs, hq, hm1⟩, hbb1⟩; obtain ⟨a1, c1, rfl⟩ := hm1.shape; obtain ⟨p, t, rfl⟩ : ∃ p t, qs = p :: t := List.exists_cons_of_ne_nil (fun e => by subst e; cases hq); have hpm : p.2 = m := (by simpa using (List.cons.inj hq).1); have hrl := hid hq; clear hq; obtain ⟨g, o, a, c, rfl, hgm, hpe, hat, hiw⟩ := hm1.at5 (i := 0) (by simp); simp only [List.getElem_cons_zero, Nat.zero_mul, Nat.add_zero] at hat hiw hpe; rw [hpm] at hat hiw; obtain ⟨x0, x1, x2, x3, x4, hxl⟩ := hat; have hgne : g ≠ w.heap.size := (by simp at hgm; omega); have hgne2 := Ne.symm hgne; have hz2 := hz1.out.below hbb1; have y0 := hz2.cell 0; have y1 := hz2.cell 1; have y2 := hz2.cell 2; have y3 := hz2.cell 3; have y4 := hz2.cell 4; have yl := hz2.lt; have fz := fun o => hz2.frozen o; simp only [List.getElem?_cons_zero, List.getElem?_cons_succ] at y0 y1 y2 y3 y4; replace hbb1 := hid (Below.next hb1.out hbb1 (by simp)); obtain ⟨-, hlc, -, -⟩ := hm1.get; simp only [List.length_cons] at hlc ⊢; replace hpe := hid hpe; replace hpm := hid hpm; replace hiw := hid hiw; clear hz2; clear hm1))
  refine bodyPost_ret (v := .tuple #[.agg #[.slice a m.words.length c, .int .i64 m.lane, .int .i64 m.stamp, .int .i64 m.late, .int .i64 m.seq], .bool true]) (by simp [results, Try.results26, go_sem, y0, y1, y2, y3, y4, yl]) rfl ⟨⟨a, c, rfl, ?_⟩, put5_below (p := (.slice a m.words.length c, m)) hbb1.out (Nat.le_refl _)⟩
  exact (put5_ints (o := 0) (p := (.slice a m.words.length c, m)) hiw.out (fun b h1 h2 e => by simp at h1; omega)).mono (fun b h _ => by simp at h; omega)
end
end Go.Proofs.Ytbbhhjoohfkanaa.La
