/- DERIVED. Walks: ticks (sat.Cut, sat.Late, the reference's Cut), slices.Clone at ints, a message copied. -/
import Derived.Test.YtnlmkllhmldgiaaKM
namespace Go.Proofs.Ytnlmkllhmldgiaa.Lb
set_option linter.unusedVariables false
set_option linter.unusedSimpArgs false
open Go.RowKit Go.Proofs.Ytnlmkllhmldgiaa.K

theorem elInt : ElemOk Try.prog 22 3 1 8 := .mk' (z := .int .i64 0) Try.underlying22 (by kernel_rfl) rfl (by decide)
theorem minTwo (a b : Int) (w : World) : (Builtin.min_ #[3, 3] 3 #[.int .i64 a, .int .i64 b]).run Try.prog w = .ok (.int .i64 (min a b)) w := by
  unfold Builtin.min_
  simp [Builtin.min2]
  split <;> (congr 2; omega)
theorem maxTwo (a b : Int) (w : World) : (Builtin.max_ #[3, 3] 3 #[.int .i64 a, .int .i64 b]).run Try.prog w = .ok (.int .i64 (max a b)) w := by
  unfold Builtin.max_
  simp [Builtin.max2]
  split <;> (congr 2; omega)

/-- A tick. -/
def cutT (n : Int) : Int := min (max n 0) 4611686018427387904
theorem cut_c (w : World) (n : Int) : Calls Try.prog 43 #[.int .i64 n] w fun e w' => e = .returned (.int .i64 (cutT n)) ∧ w = w' := by
  have h1 := minTwo
  have h2 := maxTwo
  go_enter Try.func43, Try.ntmps43
  go_wp2
  go_ret
  exact ⟨rfl, rfl⟩
def lateT (now at_ : Int) : Bool := decide (cutT at_ ≤ cutT now)
set_option maxRecDepth 100000 in
theorem late_c (w : World) (now at_ : Int) : Calls Try.prog 34 #[.int .i64 now, .int .i64 at_] w fun e w' => e = .returned (.bool (lateT now at_)) ∧ w = w' := by
  go_enter Try.func34, Try.ntmps34
  go_wp2_with (first | (go_at_call 43; (with_reducible refine (cut_c _ _).mono ?_); rintro e w' ⟨rfl, rfl⟩))
  go_ret
  exact ⟨rbool (by unfold lateT; simp), rfl⟩
set_option maxRecDepth 100000 in
theorem rcut_c (w : World) (n : Int) : Calls Try.prog 41 #[.int .i64 n] w fun e w' => e = .returned (.int .i64 (cutT n)) ∧ w = w' := by
  go_enter Try.func41, Try.ntmps41
  go_wp2
  all_goals go_ret
  all_goals exact ⟨rint (by unfold cutT; omega), rfl⟩

set_option maxRecDepth 100000 in
theorem isNil (w : World) : (binOp .eql 22 (.slice none 0 0) (.slice none 0 0)).run Try.prog w = .ok (.bool true) w := by kernel_rfl
theorem notNil (w : World) (a : Addr) (n c : Nat) : (binOp .eql 22 (.slice (some a) n c) (.slice none 0 0)).run Try.prog w = .ok (.bool false) w := by kernel_rfl
theorem clone_nil (w : World) : Calls Try.prog 36 #[.slice none 0 0] w fun e w' => e = .returned (.slice none 0 0) ∧ w = w' := by
  have hz := isNil
  go_enter Try.func36, Try.ntmps36
  go_wp2
  go_ret
  exact ⟨rfl, rfl⟩
set_option maxRecDepth 100000 in
theorem clone_c {ok : Nat → Prop} {w : World} {v : Value} {xs : List Int} (h : IntsAt ok w v xs) (hn : xs.length ≤ 17592186044416) :
    Calls Try.prog 36 #[v] w fun e w' => ∃ v', e = .returned v' ∧ IntsAt (fun b => w.heap.size ≤ b) w' v' xs ∧ Below w.heap.size w w' := by
  obtain ⟨ao, cap, rfl, ⟨hlc, hcm, hnc⟩, hx⟩ := h
  have h : IntsAt ok w (.slice ao xs.length cap) xs := ⟨ao, cap, rfl, ⟨hlc, hcm, hnc⟩, hx⟩
  cases ao with
  | none =>
    have h0 : cap = 0 := hnc rfl
    have hx0 : xs = [] := List.eq_nil_of_length_eq_zero (by omega)
    subst hx0 h0
    exact (clone_nil w).mono fun e w' ⟨he, hw⟩ => ⟨_, he, by subst hw; exact ⟨IntsAt.nil _ _, Below.refl _ _⟩⟩
  | some a =>
    have hr : ∃ v' w', (Builtin.append_ #[22, 22] 22 #[.slice (some ⟨w.heap.size, 0, none⟩) 0 0, .slice (some a) xs.length cap]).run Try.prog (w.alloc (.cells #[] 3)) = .ok v' w' ∧ Below (w.alloc (.cells #[] 3)).heap.size (w.alloc (.cells #[] 3)) w' ∧ IntsAt (fun b => (w.alloc (.cells #[] 3)).heap.size ≤ b) w' v' xs :=
      run_cloneInts elInt _ (h.below ((Below.refl _ _).alloc (Nat.le_refl _) _)) hn
    obtain ⟨v', w', hr, hb, hi⟩ := hr
    have hz := notNil
    go_enter Try.func36, Try.ntmps36
    go_wp2_with (at_builtin; refine wpList_append_run rfl (.tmp 5) (.tmp 6) 22 rfl rfl rfl hr ?_)
    go_ret
    refine ⟨v', rfl, hi.mono (fun b h _ => by simp at h; omega), Below.next ((Below.refl _ _).alloc (Nat.le_refl _) _) hb (by simp)⟩

/-- The message's copy. -/
theorem mclone_c {ok : Nat → Prop} {w : World} {p : Value × Msg} (h : IntsAt ok w p.1 p.2.words) (hn : p.2.words.length ≤ 17592186044416) :
    Calls Try.prog 38 #[aggM p] w fun e w' => ∃ v', e = .returned (aggM (v', p.2)) ∧ IntsAt (fun b => w.heap.size ≤ b) w' v' p.2.words ∧ Below w.heap.size w w' := by
  obtain ⟨sv, m⟩ := p
  simp only at h hn
  obtain ⟨ao, cap, rfl⟩ := h.shape
  unfold aggM
  simp only
  go_enter Try.func38, Try.ntmps38
  go_wp2_with (first | (go_at_call 36; (with_reducible refine (clone_c (h.below (((Below.refl w.heap.size w).alloc (Nat.le_refl _) _).alloc (by simp) _)) hn).mono ?_); rintro e w' ⟨v', rfl, hi, hb⟩; obtain ⟨av, cv, rfl⟩ := hi.shape; obtain ⟨hc, hf, hz⟩ := bcellN (w.heap.size + 2) (by simp) hb))
  have hB : Below w.heap.size w w' := Below.next (((Below.refl w.heap.size w).alloc (Nat.le_refl _) _).alloc (by simp) _) hb (by simp; omega)
  refine bodyPost_ret (v := .agg #[.slice av m.words.length cv, .int .i64 m.lane, .int .i64 m.stamp, .int .i64 m.late, .int .i64 m.seq]) (by simp [results, Try.results38, go_sem, hc, hz]) rfl ⟨_, rfl, ?_, ?_⟩
  · have hne : ∀ b, (w.heap.size + 2 ≤ b) → b ≠ w.heap.size ∧ b ≠ w.heap.size + 1 := fun b h => by omega
    exact ((((((hi.mono (ok' := fun b => w.heap.size + 2 ≤ b) (fun b h _ => by simpa using h)).set (fun c h => (hne c h).1)).set (fun c h => (hne c h).2)).set (fun c h => (hne c h).2)).set (fun c h => (hne c h).2)).set (fun c h => (hne c h).2)).set (fun c h => (hne c h).2) |>.mono (fun b h _ => by omega)
  · exact (((((hB.setCell (by simp) _).setCell (by simp) _).setCell (by simp) _).setCell (by simp) _).setCell (by simp) _).setCell (by simp) _
end Go.Proofs.Ytnlmkllhmldgiaa.Lb
