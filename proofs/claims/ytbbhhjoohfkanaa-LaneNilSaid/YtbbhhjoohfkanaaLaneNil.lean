/- DERIVED. The walk over the statement LaneNil: lanes that are not there have nothing. -/
import Derived.Test.YtbbhhjoohfkanaaLaneI
namespace Go.Proofs.Ytbbhhjoohfkanaa.La
set_option linter.unusedVariables false
set_option linter.unusedSimpArgs false
open Go.RowKit Go.Proofs.Ytbbhhjoohfkanaa.K Go.Proofs.Ytbbhhjoohfkanaa.Sp Go.Proofs.Ytbbhhjoohfkanaa.Lb Go.Proofs.Ytbbhhjoohfkanaa.So
theorem of_nil (w : World) (k : Int) : Calls Try.prog 32 #[.pointer none, .int .i64 k] w fun e w' => ∃ ao c, e = .returned (.slice ao 0 c) ∧ Below w.heap.size w w' := by
  have hbA := (Below.refl w.heap.size w).alloc (Nat.le_refl _) (.cells #[.int .i64 k] 3)
  have hkA := pts.newA w #[.int .i64 k] 3
  have hk0 := hkA.cell 0
  simp only [List.getElem?_cons_zero] at hk0
  have hd := deleteFunc_c (ps := []) (okw := fun _ => True) (World.ownsRow_nil (w.alloc (.cells #[.int .i64 k] 3)) 0 30 5) (WordsIn.nil _ _) hk0 hkA.lt (fun e => by cases e)
  unfold FnOf at hd
  replace hd := hid hd
  replace hbA := hid hbA
  clear hkA hk0
  go_enter Try.func32, Try.ntmps32
  go_wp2_with (first | (go_at_call 17; (with_reducible refine (all_nil _).mono ?_); rintro e w1 ⟨rfl, rfl⟩) | (go_at_call 47; (with_reducible refine (hd.out).mono ?_); rintro e w2 ⟨v2, qs, rfl, hqs, ho2, hc2, -⟩; have hq0 : qs = [] := (by rw [hqs]; rfl); subst hq0; obtain ⟨a2, c2, rfl⟩ := own_shape ho2; have hc2 := hid hc2; clear hqs ho2))
  go_ret
  exact ⟨a2, c2, rfl, hbA.out.trans ((hc2.out.toBelow (Nat.zero_le _) (fun i hi => by cases hi)).mono (Nat.zero_le _) |>.mono (Nat.le_refl _) |> fun h => ⟨h.os, h.tape, h.output, h.size, fun k hk => hc2.out.block k (by simp; omega) (fun e => by cases e)⟩)⟩
def zbox : Array Value := #[.slice none 0 0, .int .i64 0, .int .i64 0, .int .i64 0, .int .i64 0]
set_option maxHeartbeats 2000000 in
theorem nil_c {w : World} {a : Option Addr} {c : Nat} {m : Msg} (now : Int) : Calls Try.prog 7 #[.agg #[.slice a m.words.length c, .int .i64 m.lane, .int .i64 m.stamp, .int .i64 m.late, .int .i64 m.seq], .int .i64 now] w (LivesPost w) := by
  have hbA := hid ((Below.refl w.heap.size w).alloc (Nat.le_refl _) (.cells #[.slice a m.words.length c, .int .i64 m.lane, .int .i64 m.stamp, .int .i64 m.late, .int .i64 m.seq] 30))
  have hpA := hid (pts.newA w #[.slice a m.words.length c, .int .i64 m.lane, .int .i64 m.stamp, .int .i64 m.late, .int .i64 m.seq] 30)
  go_enter Try.func7, Try.ntmps7
  go_upto_region 6 with (first | (go_at_call 11; (with_reducible refine (lives_c _).mono ?_); rintro e w1 ⟨rfl, hb⟩; have hp1 := hid (hpA.out.below hb); have hb1 := hid (Below.next hbA.out hb (by simp)); clear hb) | (go_at_call 18; (with_reducible refine (take_nilR _).mono ?_); rintro e w2 ⟨rfl, hb⟩; have hbb := hb.alloc hb.size (.cells #[.slice none 0 0, .int .i64 0, .int .i64 0, .int .i64 0, .int .i64 0] 30); have hp2 := hid (hp1.out.below hbb); have hb2 := hid (Below.next hb1.out hbb hb1.out.size); clear hb hbb) | (go_at_call 26; (with_reducible refine (peek_nilR _).mono ?_); rintro e w3 ⟨rfl, hb⟩; have hbb := hb.alloc hb.size (.cells #[.slice none 0 0, .int .i64 0, .int .i64 0, .int .i64 0, .int .i64 0] 30); have hp3 := hid (hp2.out.below hbb); have hb3 := hid (Below.next hb2.out hbb hb2.out.size); clear hb hbb))
  have y0 := hp3.out.cell 0
  have y1 := hp3.out.cell 1
  have y2 := hp3.out.cell 2
  have y3 := hp3.out.cell 3
  have y4 := hp3.out.cell 4
  have yl := hp3.out.lt
  simp only [List.getElem?_cons_zero, List.getElem?_cons_succ] at y0 y1 y2 y3 y4
  go_wp2_with (first | (go_at_call 16; (with_reducible refine (put_nilR _ a m.words.length c m).mono ?_); rintro e w4 ⟨rfl, hb⟩; have hb4 := hid (Below.next hb3.out hb hb3.out.size); clear hb) | (go_at_call 15; (with_reducible refine (room_nil _ _).mono ?_); rintro e w' ⟨rfl, rfl⟩) | (go_at_call 19; (with_reducible refine (len_nil _).mono ?_); rintro e w' ⟨rfl, rfl⟩) | (go_at_call 21; (with_reducible refine (sweep_nil _ _).mono ?_); rintro e w5 ⟨rfl, hb⟩; have hb5 := hid (Below.next hb4.out hb hb4.out.size); clear hb) | (go_at_call 30; (with_reducible refine (flush_nil _).mono ?_); rintro e w' ⟨rfl, rfl⟩) | (go_at_call 17; (with_reducible refine (all_nil _).mono ?_); rintro e w' ⟨rfl, rfl⟩) | (go_at_call 32; (with_reducible refine (of_nil _ _).mono ?_); rintro e w6 ⟨a6, c6, rfl, hb⟩; have hb6 := hid (Below.next hb5.out hb hb5.out.size); clear hb))
  go_ret
  exact ⟨rfl, hb6.out⟩
end Go.Proofs.Ytbbhhjoohfkanaa.La
