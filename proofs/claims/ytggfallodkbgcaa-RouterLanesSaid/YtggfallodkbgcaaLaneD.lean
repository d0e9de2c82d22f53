/- DERIVED. Walks over lanes: Room, Peek, Put. No statement is proved here. -/
import Derived.Test.YtggfallodkbgcaaLaneC
import Derived.Deep.RegionLaw
import Derived.Deep.AppendLies
namespace Go.Proofs.Ytggfallodkbgcaa.La
set_option linter.unusedVariables false
set_option linter.unusedSimpArgs false
open Go.RowKit Go.Proofs.Ytggfallodkbgcaa.K Go.Proofs.Ytggfallodkbgcaa.Sp Go.Proofs.Ytggfallodkbgcaa.Lb Go.Proofs.Ytggfallodkbgcaa.So
section
variable {w w' : World} {M : Nat → Prop} {lb : Nat} {ln pl : Int} {ms : List Msg}
def roomT (ln pl : Int) (ms : List Msg) (k : Int) : Int := if isT ln k then pl - (ofM k ms).length else 0
def RoomPost (w : World) (r : Int) (e : Ending) (w' : World) : Prop := e = .returned (.int .i64 r) ∧ Below w.heap.size w w'
theorem room_nil (w : World) (k : Int) : Calls Try.prog 28 #[.pointer none, .int .i64 k] w fun e w' => e = .returned (.int .i64 0) ∧ w = w' := by
  go_enter Try.func28, Try.ntmps28
  go_wp2_with (first | (go_at_call 50; (with_reducible refine (is_nil _ _).mono ?_); rintro e w1 ⟨rfl, rfl⟩))
  go_ret
  exact ⟨rfl, rfl⟩
set_option maxHeartbeats 1000000 in
theorem room_c (h : LanesM w M lb ln pl ms) (k : Int) : Calls Try.prog 28 #[.pointer (some ⟨lb, 0, none⟩), .int .i64 k] w (RoomPost w (roomT ln pl ms k)) := by
  have h0 := h
  obtain ⟨lv, ps, hps, hl⟩ := h
  obtain ⟨c0, c1, c2, f2, hlt⟩ := hl.cells
  have hir : Hid (roomT ln pl ms k = if isT ln k then pl - (ofM k ms).length else 0) := hid rfl
  have hpb := hl.inv.p
  have hfl : ((ofM k ms).length : Int) ≤ 24 := by have := h0.inv.len; have h2 := List.length_filter_le (fun m : Msg => m.lane == k) ms; unfold ofM; omega
  have hwr : IntKind.i64.wrap (pl - ((ofM k ms).length : Int)) = pl - (ofM k ms).length := IntWalk.i64_in _ (by omega)
  have his := is_c h0 k
  have hof := hid (fun (w : World) (h : LanesM w M lb ln pl ms) => of_c h k)
  have hld := hid (h0.below (w' := w.drew) (Below.refl _ _).drew)
  replace hl := hid hl
  replace hps := hid hps
  replace h0 := hid h0
  cases hi : isT ln k with
  | false =>
    rw [hi] at his hir
    replace hi := hid hi
    replace his := hid his
    go_enter Try.func28, Try.ntmps28
    go_wp2_with (first | (go_at_call 50; (with_reducible refine (his.out).mono ?_); rintro e w1 ⟨rfl, rfl⟩))
    go_ret
    exact ⟨by rw [hir.out] <;> rfl, Below.refl _ _⟩
  | true =>
    rw [hi] at his hir
    replace hi := hid hi
    replace his := hid his
    go_enter Try.func28, Try.ntmps28
    go_upto_region 3 with (first | (go_at_call 50; (with_reducible refine (his.out).mono ?_); rintro e w1 ⟨rfl, rfl⟩))
    go_region_held3 (fun W => W.cell? ⟨lb, 1, none⟩ = some (.int .i64 pl))
      (first | go_keep | ((try dsimp only); (repeat' apply And.intro) <;> go_keep))
      (first | (go_at_call 51; (with_reducible refine (hof.out w.drew hld.out).mono ?_); rintro e w2 ⟨v2, rfl, hm2, hb2⟩; obtain ⟨a2, k2, rfl⟩ := hm2.shape; replace hb2 := Below.ofDrew hb2; have y1 := (hb2.cell (p := ⟨lb, 1, none⟩) hlt).trans c1; replace hm2 := hid hm2; replace hb2 := hid hb2))
    go_wp2
    go_ret
    exact ⟨by rw [hir.out] <;> rfl, hb2.out⟩
/-- A message in hand: its words lie in new memory. -/
def HandPost (w : World) (ok : World → Nat → Prop) (m : Msg) (e : Ending) (w' : World) : Prop :=
  ∃ a c, e = .returned (.tuple #[.agg #[.slice a m.words.length c, .int .i64 m.lane, .int .i64 m.stamp, .int .i64 m.late, .int .i64 m.seq], .bool true]) ∧ IntsAt (ok w') w' (.slice a m.words.length c) m.words
end
end Go.Proofs.Ytggfallodkbgcaa.La
