/- DERIVED. The walks over package mode: each call does what the plain lists say. -/
import Derived.Test.YtfnhjendplgidaaK0
import Derived.Test.YtfnhjendplgidaaModeP
import Derived.Deep.QuietTactic
import Derived.BigQuiet
import Derived.Deep.RegionWith
namespace Go.Proofs.Ytfnhjendplgidaa.Md
open Go.RowKit Go.Proofs.Ytfnhjendplgidaa.K

def enc (x : Part) : List Value := [.int .i64 x.a, .int .i64 x.m, .int .i64 x.s]
theorem enc_len (x : Part) : (enc x).length = 3 := rfl
structure ModesAt (w : World) (p a : Nat) (s : List Part) : Prop where
  ex : ∃ ex cap, pts w p [.slice (some ⟨a, 0, none⟩) s.length cap] 57 ∧ pts w a (flat enc s ++ ex) 59
  ne : p ≠ a
  le : s.length ≤ 4
  pos : 0 < s.length
  wf : ∀ x ∈ s, x.wf

theorem ModesAt.kept {w w' : World} {p a : Nat} {s : List Part} (h : ModesAt w p a s) (hp : w'.heap[p]? = w.heap[p]?) (ha : w'.heap[a]? = w.heap[a]?) : ModesAt w' p a s :=
  ⟨let ⟨ex, cap, h1, h2⟩ := h.ex; ⟨ex, cap, h1.of hp, h2.of ha⟩, h.ne, h.le, h.pos, h.wf⟩
theorem ModesAt.lt {w : World} {p a : Nat} {s : List Part} (h : ModesAt w p a s) : p < w.heap.size ∧ a < w.heap.size := let ⟨_, _, h1, h2⟩ := h.ex; ⟨h1.lt, h2.lt⟩
theorem ModesAt.below {w w' : World} {p a : Nat} {s : List Part} (h : ModesAt w p a s) (hb : Below w.heap.size w w') : ModesAt w' p a s := h.kept (hb.block p h.lt.1) (hb.block a h.lt.2)
theorem ModesAt.head {w : World} {p a : Nat} {s : List Part} (h : ModesAt w p a s) : ∃ cap, w.cell? ⟨p, 0, none⟩ = some (.slice (some ⟨a, 0, none⟩) s.length cap) := by
  obtain ⟨ex, cap, h1, _⟩ := h.ex; exact ⟨cap, by rw [h1.cell]; rfl⟩
theorem ModesAt.cells {w : World} {p a : Nat} {s : List Part} (h : ModesAt w p a s) {k : Nat} (hk : k < s.length) :
    w.cell? ⟨a, k * 3, none⟩ = some (.int .i64 s[k].a) ∧ w.cell? ⟨a, k * 3 + 1, none⟩ = some (.int .i64 s[k].m) ∧ w.cell? ⟨a, k * 3 + 2, none⟩ = some (.int .i64 s[k].s) ∧
    w.frozen? ⟨a, k * 3 + 1, none⟩ = false ∧ w.frozen? ⟨a, k * 3 + 2, none⟩ = false := by
  obtain ⟨ex, cap, _, h2⟩ := h.ex
  refine ⟨?_, ?_, ?_, h2.frozen _, h2.frozen _⟩
  · rw [h2.cell]; exact flat_get enc_len s ex k 0 hk (by omega)
  · rw [h2.cell]; exact flat_get enc_len s ex k 1 hk (by omega)
  · rw [h2.cell]; exact flat_get enc_len s ex k 2 hk (by omega)
/-- the mode's cell is written. -/
theorem ModesAt.setMode {w : World} {p a : Nat} {s : List Part} (h : ModesAt w p a s) {k : Nat} (hk : k < s.length) (v : Int) (hv : v = 0 ∨ v = 1 ∨ v = 2) :
    ModesAt (w.setCell ⟨a, k * 3 + 1, none⟩ (.int .i64 v)) p a (s.set k { s[k] with m := v }) := by
  obtain ⟨ex, cap, h1, h2⟩ := h.ex
  refine ⟨⟨ex, cap, by simpa using h1.set_ne (a := ⟨a, k * 3 + 1, none⟩) h.ne (.int .i64 v), ?_⟩, h.ne, by simpa using h.le, by simpa using h.pos, wf_set h.wf ⟨(h.wf _ (List.getElem_mem hk)).1, hv⟩⟩
  have := h2.set (k * 3 + 1) (.int .i64 v)
  rw [flat_set enc_len s ex k 1 hk (by omega) (.int .i64 v) { s[k] with m := v } rfl] at this
  exact this
theorem ModesAt.setStarts {w : World} {p a : Nat} {s : List Part} (h : ModesAt w p a s) {k : Nat} (hk : k < s.length) (v : Int) :
    ModesAt (w.setCell ⟨a, k * 3 + 2, none⟩ (.int .i64 v)) p a (s.set k { s[k] with s := v }) := by
  obtain ⟨ex, cap, h1, h2⟩ := h.ex
  refine ⟨⟨ex, cap, by simpa using h1.set_ne (a := ⟨a, k * 3 + 2, none⟩) h.ne (.int .i64 v), ?_⟩, h.ne, by simpa using h.le, by simpa using h.pos, wf_set h.wf (show Part.wf _ from h.wf s[k] (List.getElem_mem hk))⟩
  have := h2.set (k * 3 + 2) (.int .i64 v)
  rw [flat_set enc_len s ex k 2 hk (by omega) (.int .i64 v) { s[k] with s := v } rfl] at this
  exact this

theorem next_0 (e : Int) (w : World) (he : e = 0 ∨ e = 1 ∨ e = 2) : Calls Try.prog 24 #[.int .i64 0, .int .i64 e] w fun e' w' => e' = .returned (.int .i64 e) ∧ Below w.heap.size w w' := by
  rcases he with rfl | rfl | rfl
  all_goals
    go_enter Try.func24, Try.ntmps24
    go_wp2
    go_ret
    exact ⟨rfl, (Below.refl _ _).alloc (Nat.le_refl _) _⟩
theorem next_03 (w : World) : Calls Try.prog 24 #[.int .i64 0, .int .i64 3] w fun e' w' => e' = .returned (.int .i64 1) ∧ Below w.heap.size w w' := by
  go_enter Try.func24, Try.ntmps24
  go_wp2
  go_ret
  exact ⟨rfl, (Below.refl _ _).alloc (Nat.le_refl _) _⟩
theorem next_14 (w : World) : Calls Try.prog 24 #[.int .i64 1, .int .i64 4] w fun e' w' => e' = .returned (.int .i64 0) ∧ Below w.heap.size w w' := by
  go_enter Try.func24, Try.ntmps24
  go_wp2
  go_ret
  exact ⟨rfl, (Below.refl _ _).alloc (Nat.le_refl _) _⟩

theorem of_in (w : World) (p a n cap i : Nat) (h : w.cell? ⟨p, 0, none⟩ = some (.slice (some ⟨a, 0, none⟩) n cap)) (hi : i < n) (_hn : n ≤ 4) :
    Calls Try.prog 23 #[.pointer (some ⟨p, 0, none⟩), .int .i64 i] w fun e w' => e = .returned (.pointer (some ⟨a, i * 3, none⟩)) ∧ w = w' := by
  go_enter Try.func23, Try.ntmps23
  go_wp2
  go_ret
  exact ⟨rfl, rfl⟩
theorem of_out (w : World) (p a n cap : Nat) (i : Int) (h : w.cell? ⟨p, 0, none⟩ = some (.slice (some ⟨a, 0, none⟩) n cap)) (hi : i < 0 ∨ (n : Int) ≤ i)  :
    Calls Try.prog 23 #[.pointer (some ⟨p, 0, none⟩), .int .i64 i] w fun e w' => e = .returned (.pointer none) ∧ w = w' := by
  by_cases h0 : i < 0
  · go_enter Try.func23, Try.ntmps23
    go_wp2
    all_goals go_ret
    all_goals exact ⟨rfl, rfl⟩
  · have h1 : (n : Int) ≤ i := by omega
    clear hi
    go_enter Try.func23, Try.ntmps23
    go_wp2
    all_goals go_ret
    all_goals exact ⟨rfl, rfl⟩
theorem of_nil (w : World) (i : Int) :
    Calls Try.prog 23 #[.pointer none, .int .i64 i] w fun e w' => e = .returned (.pointer none) ∧ w = w' := by
  go_enter Try.func23, Try.ntmps23
  go_wp2
  all_goals go_ret
  all_goals exact ⟨rfl, rfl⟩

theorem mode_nil (w : World) (i : Int) : Calls Try.prog 10 #[.pointer none, .int .i64 i] w fun e w' => e = .returned (.tuple #[.int .i64 0, .bool false]) ∧ w = w' := by
  go_enter Try.func10, Try.ntmps10
  go_wp2_with (go_at_call 23; refine (of_nil _ _).mono ?_; rintro e w' ⟨rfl, rfl⟩)
  all_goals go_ret2
  all_goals exact ⟨rfl, rfl⟩
theorem starts_nil (w : World) (i : Int) : Calls Try.prog 22 #[.pointer none, .int .i64 i] w fun e w' => e = .returned (.int .i64 0) ∧ w = w' := by
  go_enter Try.func22, Try.ntmps22
  go_wp2_with (go_at_call 23; refine (of_nil _ _).mono ?_; rintro e w' ⟨rfl, rfl⟩)
  all_goals go_ret
  all_goals exact ⟨rfl, rfl⟩
theorem fault_nil (w : World) (i : Int) : Calls Try.prog 9 #[.pointer none, .int .i64 i] w fun e w' => e = .returned (.tuple #[.int .i64 0, .int .i64 7]) ∧ w = w' := by
  go_enter Try.func9, Try.ntmps9
  go_wp2_with (go_at_call 23; refine (of_nil _ _).mono ?_; rintro e w' ⟨rfl, rfl⟩)
  all_goals go_ret2
  all_goals exact ⟨rfl, rfl⟩
theorem again_nil (w : World) (i : Int) : Calls Try.prog 18 #[.pointer none, .int .i64 i] w fun e w' => e = .returned (.int .i64 7) ∧ w = w' := by
  go_enter Try.func18, Try.ntmps18
  go_wp2_with (go_at_call 23; refine (of_nil _ _).mono ?_; rintro e w' ⟨rfl, rfl⟩)
  all_goals go_ret
  all_goals exact ⟨rfl, rfl⟩
theorem up_nil (w : World) (i : Int) : Calls Try.prog 20 #[.pointer none, .int .i64 i] w fun e w' => e = .returned (.bool false) ∧ w = w' := by
  go_enter Try.func20, Try.ntmps20
  go_wp2_with (go_at_call 23; refine (of_nil _ _).mono ?_; rintro e w' ⟨rfl, rfl⟩)
  all_goals go_ret
  all_goals exact ⟨rfl, rfl⟩
theorem all_nil (w : World) : Calls Try.prog 11 #[.pointer none] w fun e w' => e = .returned (.slice none 0 0) ∧ w = w' := by
  go_enter Try.func11, Try.ntmps11
  go_wp2
  all_goals go_ret
  all_goals exact ⟨rfl, rfl⟩

section
variable {w : World} {p a : Nat} {s : List Part}
theorem mode_c (h : ModesAt w p a s) (i : Int) : Calls Try.prog 10 #[.pointer (some ⟨p, 0, none⟩), .int .i64 i] w fun e w' => e = .returned (.tuple #[.int .i64 (modeM s i).1, .bool (modeM s i).2]) ∧ w = w' := by
  obtain ⟨cap, hh⟩ := h.head
  rcases cases s i with hi | ⟨k, rfl, hk⟩
  · rw [modeM, at?_out hi]
    go_enter Try.func10, Try.ntmps10
    go_wp2_with (go_at_call 23; refine (of_out _ _ _ _ _ _ hh hi).mono ?_; rintro e w' ⟨rfl, rfl⟩)
    all_goals go_ret2
    all_goals exact ⟨rfl, rfl⟩
  · rw [modeM, at?_in hk]
    obtain ⟨c0, c1, c2, f1, f2⟩ := h.cells hk
    have hle := h.le
    go_enter Try.func10, Try.ntmps10
    go_wp2_with (go_at_call 23; refine (of_in _ _ _ _ _ _ hh hk hle).mono ?_; rintro e w' ⟨rfl, rfl⟩)
    all_goals go_ret2
    all_goals exact ⟨rfl, rfl⟩
theorem starts_c (h : ModesAt w p a s) (i : Int) : Calls Try.prog 22 #[.pointer (some ⟨p, 0, none⟩), .int .i64 i] w fun e w' => e = .returned (.int .i64 (startsM s i)) ∧ w = w' := by
  obtain ⟨cap, hh⟩ := h.head
  rcases cases s i with hi | ⟨k, rfl, hk⟩
  · rw [startsM, at?_out hi]
    go_enter Try.func22, Try.ntmps22
    go_wp2_with (go_at_call 23; refine (of_out _ _ _ _ _ _ hh hi).mono ?_; rintro e w' ⟨rfl, rfl⟩)
    all_goals go_ret
    all_goals exact ⟨rfl, rfl⟩
  · rw [startsM, at?_in hk]
    obtain ⟨c0, c1, c2, f1, f2⟩ := h.cells hk
    have hle := h.le
    go_enter Try.func22, Try.ntmps22
    go_wp2_with (go_at_call 23; refine (of_in _ _ _ _ _ _ hh hk hle).mono ?_; rintro e w' ⟨rfl, rfl⟩)
    all_goals go_ret
    all_goals exact ⟨rfl, rfl⟩
def Mine (a : Nat) : Nat → Prop := fun b => b = a
theorem mine (a : Nat) : Mine a a := rfl
theorem up_c (h : ModesAt w p a s) (i : Int) : Calls Try.prog 20 #[.pointer (some ⟨p, 0, none⟩), .int .i64 i] w fun e w' => e = .returned (.bool (upM s i).2) ∧ ModesAt w' p a (upM s i).1 ∧ Chg (Mine a) w w' := by
  obtain ⟨cap, hh⟩ := h.head
  rcases cases s i with hi | ⟨k, rfl, hk⟩
  · rw [upM, at?_out hi]
    go_enter Try.func20, Try.ntmps20
    go_wp2_with (go_at_call 23; refine (of_out _ _ _ _ _ _ hh hi).mono ?_; rintro e w' ⟨rfl, rfl⟩)
    all_goals go_ret
    all_goals exact ⟨rfl, h, Chg.refl _ _⟩
  · rw [upM, at?_in hk]
    obtain ⟨c0, c1, c2, f1, f2⟩ := h.cells hk
    have hle := h.le
    obtain ⟨hp, ha⟩ := h.lt
    by_cases hm : s[k].m = 1
    · simp only [hm, if_true]
      rw [hm] at c1
      have hh1 := hid hh; clear hh
      have hm1 := hid hm; clear hm
      go_enter Try.func20, Try.ntmps20
      go_wp2_with (first | (go_at_call 23; refine (of_in _ _ _ _ _ _ hh1.out hk hle).mono ?_; rintro e w' ⟨rfl, rfl⟩) | (go_at_call 24; refine (next_14 _).mono ?_; rintro e w' ⟨rfl, hb⟩; obtain ⟨hc, hf⟩ := bcell hb))
      all_goals go_ret
      refine ⟨rfl, ?_, ((Chg.of_below hb).setB (mine a)).setB (mine a)⟩
      have h2 := ((h.below hb).setMode hk 0 (by simp)).setStarts (k := k) (by simpa using hk) (wrap64 (s[k].s + 1))
      simpa using h2
    · simp only [hm, if_false]
      go_enter Try.func20, Try.ntmps20
      go_wp2_with (first | (go_at_call 23; refine (of_in _ _ _ _ _ _ hh hk hle).mono ?_; rintro e w' ⟨rfl, rfl⟩))
      all_goals go_ret
      exact ⟨rfl, h, Chg.refl _ _⟩
theorem again_c (h : ModesAt w p a s) (i : Int) : Calls Try.prog 18 #[.pointer (some ⟨p, 0, none⟩), .int .i64 i] w fun e w' => e = .returned (.int .i64 (againM s i).2) ∧ ModesAt w' p a (againM s i).1 ∧ Chg (Mine a) w w' := by
  obtain ⟨cap, hh⟩ := h.head
  rcases cases s i with hi | ⟨k, rfl, hk⟩
  · rw [againM, at?_out hi]
    go_enter Try.func18, Try.ntmps18
    go_wp2_with (go_at_call 23; refine (of_out _ _ _ _ _ _ hh hi).mono ?_; rintro e w' ⟨rfl, rfl⟩)
    all_goals go_ret
    all_goals exact ⟨rfl, h, Chg.refl _ _⟩
  · rw [againM, at?_in hk]
    obtain ⟨c0, c1, c2, f1, f2⟩ := h.cells hk
    have hle := h.le
    obtain ⟨hp, ha⟩ := h.lt
    have hh1 := hid hh; clear hh
    rcases (h.wf _ (List.getElem_mem hk)).2 with hm | hm | hm
    · simp only [hm, if_true, if_false, show ¬ ((0 : Int) = 1) by omega, show ¬ ((0 : Int) = 2) by omega]
      rw [hm] at c1
      have hm1 := hid hm; clear hm
      go_enter Try.func18, Try.ntmps18
      go_wp2_with (first | (go_at_call 23; refine (of_in _ _ _ _ _ _ hh1.out hk hle).mono ?_; rintro e w' ⟨rfl, rfl⟩) | (go_at_call 24; refine (next_03 _).mono ?_; rintro e w' ⟨rfl, hb⟩; obtain ⟨hc, hf⟩ := bcell hb))
      all_goals go_ret
      exact ⟨rfl, (h.below hb).setMode hk 1 (by simp), (Chg.of_below hb).setB (mine a)⟩
    · simp only [hm, if_true, if_false, show ¬ ((1 : Int) = 2) by omega]
      rw [hm] at c1
      have hm1 := hid hm; clear hm
      go_enter Try.func18, Try.ntmps18
      go_wp2_with (first | (go_at_call 23; refine (of_in _ _ _ _ _ _ hh1.out hk hle).mono ?_; rintro e w' ⟨rfl, rfl⟩))
      all_goals go_ret
      exact ⟨rfl, h, Chg.refl _ _⟩
    · simp only [hm, if_true]
      rw [hm] at c1
      have hm1 := hid hm; clear hm
      go_enter Try.func18, Try.ntmps18
      go_wp2_with (first | (go_at_call 23; refine (of_in _ _ _ _ _ _ hh1.out hk hle).mono ?_; rintro e w' ⟨rfl, rfl⟩))
      all_goals go_ret
      exact ⟨rfl, h, Chg.refl _ _⟩
set_option maxHeartbeats 1000000 in
theorem fault_c (h : ModesAt w p a s) (i : Int) : Calls Try.prog 9 #[.pointer (some ⟨p, 0, none⟩), .int .i64 i] w fun e w' => e = .returned (.tuple #[.int .i64 (faultM s i).2.1, .int .i64 (faultM s i).2.2]) ∧ ModesAt w' p a (faultM s i).1 ∧ Chg (Mine a) w w' := by
  obtain ⟨cap, hh⟩ := h.head
  rcases cases s i with hi | ⟨k, rfl, hk⟩
  · rw [faultM, at?_out hi]
    go_enter Try.func9, Try.ntmps9
    go_wp2_with (go_at_call 23; refine (of_out _ _ _ _ _ _ hh hi).mono ?_; rintro e w' ⟨rfl, rfl⟩)
    all_goals go_ret2
    all_goals exact ⟨rfl, h, Chg.refl _ _⟩
  · rw [faultM, at?_in hk]
    obtain ⟨c0, c1, c2, f1, f2⟩ := h.cells hk
    have hle := h.le
    obtain ⟨hp, ha⟩ := h.lt
    have hh1 := hid hh; clear hh
    by_cases hm : s[k].m = 0
    · simp only [hm, if_true]
      rw [hm] at c1
      have hm1 := hid hm; clear hm
      have hac := hid (h.wf _ (List.getElem_mem hk)).1
      go_enter Try.func9, Try.ntmps9
      go_wp2_with (first | (go_at_call 23; refine (of_in _ _ _ _ _ _ hh1.out hk hle).mono ?_; rintro e w' ⟨rfl, rfl⟩))
      go_region_with (go_at_call 24; refine (next_0 _ _ hac.out).mono ?_; rintro e w' ⟨rfl, hb⟩; obtain ⟨hc, hf⟩ := bcellD (W0 := w) hb rfl)
      all_goals go_wp2
      all_goals go_ret2
      all_goals exact ⟨rfl, (h.below (Below.ofDrew hb)).setMode hk _ hac.out, (Chg.of_below (Below.ofDrew hb)).setB (mine a)⟩
    · simp only [hm, if_false]
      go_enter Try.func9, Try.ntmps9
      go_wp2_with (first | (go_at_call 23; refine (of_in _ _ _ _ _ _ hh1.out hk hle).mono ?_; rintro e w' ⟨rfl, rfl⟩))
      all_goals go_ret2
      exact ⟨rfl, h, Chg.refl _ _⟩

end

end Go.Proofs.Ytfnhjendplgidaa.Md
