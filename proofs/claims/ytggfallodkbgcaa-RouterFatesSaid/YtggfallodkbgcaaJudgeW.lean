/- DERIVED. Walks: how a message is judged, by the program and by the reference. No statement is proved here. -/
import Derived.Test.YtggfallodkbgcaaSatW
import Derived.Test.YtggfallodkbgcaaLaneAll
namespace Go.Proofs.Ytggfallodkbgcaa.Gt
set_option linter.unusedVariables false
set_option linter.unusedSimpArgs false
open Go.RowKit Go.Proofs.Ytggfallodkbgcaa.K Go.Proofs.Ytggfallodkbgcaa.Lb Go.Proofs.Ytggfallodkbgcaa.La Go.Proofs.Ytggfallodkbgcaa.Cf
theorem judge1_c (w : World) (x : Int) : Calls Try.prog 48 #[.int .i64 x] w fun e w' => e = .returned (.bool (badWord x)) ∧ w = w' := by
  by_cases h1 : x < 0
  · go_enter Try.func48, Try.ntmps48
    go_wp2
    go_ret
    exact ⟨rbool (by unfold badWord; simp [h1]), rfl⟩
  · have h1' : 0 ≤ x := by omega
    by_cases h2 : 2147483647 < x
    all_goals go_enter Try.func48, Try.ntmps48
    all_goals go_wp2
    all_goals go_ret
    all_goals exact ⟨rbool (by unfold badWord; simp [h1, h2]), rfl⟩
theorem indexBad_c {ok : Nat → Prop} {w : World} {v : Value} {xs : List Int} (h : IntsAt ok w v xs) :
    Calls Try.prog 62 #[v, .func (.func 48) #[] #[]] w fun e w' => e = .returned (.int .i64 (idxF badWord xs)) ∧ w = w' := by
  obtain ⟨ao, cap, rfl⟩ := h.shape
  obtain ⟨-, hl, hm, hget⟩ := h.get
  have hget := hid hget
  go_enter Try.func62, Try.ntmps62
  go_wp2
  go_loopg [8, 5] xs.length (fun g i i5 wr => w = wr ∧ ∃ k : Nat, k ≤ xs.length ∧ g = xs.length - k ∧ i = .int .i64 k ∧ ∀ x ∈ xs.take k, badWord x = false)
  case atStart => exact ⟨rfl, 0, Nat.zero_le _, rfl, rfl, by simp⟩
  case round =>
    obtain ⟨rfl, k, hk, hgk, rfl, hnot⟩ := hrel
    by_cases hlt : k < xs.length
    · obtain ⟨g, o, rfl, -, hg, ck⟩ := hget.out k hlt
      cases he : badWord xs[k] with
      | true =>
        have hi := hid (idxF_found hlt hnot he)
        have hj := judge1_c w xs[k]
        rw [he] at hj
        replace hj := hid hj
        clear he hnot
        go_wp2_with (first | (go_at_call 48; (with_reducible refine (hj.out).mono ?_); rintro e w' ⟨rfl, rfl⟩))
        go_ret
        exact ⟨by rw [hi.out]; rfl, rfl⟩
      | false =>
        have hn := hid (show ∀ x ∈ xs.take (k + 1), badWord x = false from fun x hx => by
          rw [List.take_succ_eq_append_getElem hlt] at hx
          rcases List.mem_append.1 hx with hx | hx
          · exact hnot x hx
          · simp at hx; subst hx; exact he)
        have hj := judge1_c w xs[k]
        rw [he] at hj
        replace hj := hid hj
        clear he hnot
        go_wp2_with (first | (go_at_call 48; (with_reducible refine (hj.out).mono ?_); rintro e w' ⟨rfl, rfl⟩))
        go_roundg (xs.length - (k + 1))
        case rel => exact ⟨rfl, k + 1, by omega, rfl, by go_num, hn.out⟩
        case measure => omega
    · obtain rfl : k = xs.length := by omega
      rw [List.take_length] at hnot
      have hi := hid (idxF_none hnot)
      clear hnot
      go_wp2
      go_ret
      exact ⟨by rw [hi.out]; rfl, rfl⟩
theorem idx_any (xs : List Int) : (xs.any badWord = false ∧ idxF badWord xs = -1) ∨ (xs.any badWord = true ∧ 0 ≤ idxF badWord xs) := by
  rcases idxF_split badWord xs with ⟨h1, h2⟩ | ⟨k, hk, _, h2, h3⟩
  · exact .inl ⟨by rw [List.any_eq_false]; intro x hx; simpa using h1 x hx, h2⟩
  · exact .inr ⟨List.any_eq_true.2 ⟨xs[k], List.getElem_mem hk, h2⟩, by omega⟩
theorem containsBad_c {ok : Nat → Prop} {w : World} {v : Value} {xs : List Int} (h : IntsAt ok w v xs) :
    Calls Try.prog 49 #[v, .func (.func 48) #[] #[]] w fun e w' => e = .returned (.bool (xs.any badWord)) ∧ w = w' := by
  have hi := hid (indexBad_c h)
  obtain ⟨ao, cap, rfl⟩ := h.shape
  clear h
  rcases idx_any xs with ⟨h1, h2⟩ | ⟨h1, h2⟩
  · rw [h1]
    have hii := hid h2
    clear h1 h2
    go_enter Try.func49, Try.ntmps49
    go_wp2_with (first | (go_at_call 62; (with_reducible refine (hi.out).mono ?_); rw [hii.out]; rintro e w' ⟨rfl, rfl⟩))
    go_ret
    exact ⟨rfl, rfl⟩
  · rw [h1]
    clear h1
    generalize idxF badWord xs = i at hi h2
    go_enter Try.func49, Try.ntmps49
    go_wp2_with (first | (go_at_call 62; (with_reducible refine (hi.out).mono ?_); rintro e w' ⟨rfl, rfl⟩))
    go_ret
    exact ⟨rfl, rfl⟩
def JudgePost (w : World) (r : Int) (e : Ending) (w' : World) : Prop := e = .returned (.int .i64 r) ∧ Below w.heap.size w w'
set_option maxHeartbeats 1000000 in
theorem judge_c {ok : Nat → Prop} {w : World} {v : Value} {ws : List Int} (k : Chan) (mode lane : Int) (h : IntsAt ok w v ws) : Calls Try.prog 27 #[aggC k, .int .i64 mode, .int .i64 lane, v] w (JudgePost w (judgeT k mode lane ws)) := by
  obtain ⟨ao, cap, rfl⟩ := h.shape
  have hbA := hid ((Below.refl w.heap.size w).alloc (Nat.le_refl _) (.cells (encC k).toArray 23))
  have hc := hid (containsBad_c (h.below ((Below.refl w.heap.size w).alloc (Nat.le_refl _) (.cells (encC k).toArray 23))))
  have hws : ws = [] ↔ ws.length = 0 := by simp
  unfold encC at hbA hc
  unfold aggC
  clear h
  by_cases hm : mode = 0
  · subst hm
    by_cases hk : k.kind = 1
    · have hk1 : (k.kind != 1) = false := by simp [hk]
      by_cases hl : lane < 0
      · have hr : Hid (judgeT k 0 lane ws = 3) := by unfold Hid judgeT; simp [hk, hl]
        replace hk := hid hk
        rw [hr.out]
        clear hws
        go_enter Try.func27, Try.ntmps27
        go_wp2
        go_ret
        exact ⟨rfl, hbA.out⟩
      · have hl0 : 0 ≤ lane := by omega
        by_cases hl2 : k.lanes ≤ lane
        · have hr : Hid (judgeT k 0 lane ws = 3) := by unfold Hid judgeT; simp [hk, hl2]
          replace hk := hid hk
          rw [hr.out]
          clear hws
          go_enter Try.func27, Try.ntmps27
          go_wp2
          go_ret
          exact ⟨rfl, hbA.out⟩
        · have hl3 : lane < k.lanes := by omega
          by_cases hn : ws.length = 0
          · have hr : Hid (judgeT k 0 lane ws = 3) := by unfold Hid judgeT; simp [hk, hws.2 hn]
            have hn1 : ((ws.length : Int) == 0) = true := by simp [hn]
            replace hk := hid hk
            replace hn := hid hn
            rw [hr.out]
            clear hws
            go_enter Try.func27, Try.ntmps27
            go_wp2
            go_ret
            exact ⟨rfl, hbA.out⟩
          · have hn1 : ((ws.length : Int) == 0) = false := by rw [beq_eq_false_iff_ne]; omega
            by_cases hw2 : k.words < ws.length
            · have hr : Hid (judgeT k 0 lane ws = 3) := by unfold Hid judgeT; simp [hk, hw2]
              replace hk := hid hk
              rw [hr.out]
              clear hws
              go_enter Try.func27, Try.ntmps27
              go_wp2
              go_ret
              exact ⟨rfl, hbA.out⟩
            · have hw3 : (ws.length : Int) ≤ k.words := by omega
              have hr := hid (judge_words hk hl0 hl3 hn hw3)
              replace hk := hid hk
              replace hn := hid hn
              rw [hr.out]
              clear hws hr
              generalize hb : ws.any badWord = b at hc ⊢
              replace hb := hid hb
              cases b
              all_goals go_enter Try.func27, Try.ntmps27
              all_goals go_wp2_with (first | (go_at_call 49; (with_reducible refine (hc.out).mono ?_); rintro e w' ⟨rfl, rfl⟩))
              all_goals go_ret
              all_goals exact ⟨rfl, hbA.out⟩
    · have hk1 : (k.kind != 1) = true := by simpa using hk
      have hr : Hid (judgeT k 0 lane ws = 4) := by unfold Hid judgeT; simp [hk]
      replace hk := hid hk
      rw [hr.out]
      clear hws
      go_enter Try.func27, Try.ntmps27
      go_wp2
      go_ret
      exact ⟨rfl, hbA.out⟩
  · have hm1 : (mode != 0) = true := by simpa using hm
    have hr : Hid (judgeT k mode lane ws = 5) := by unfold Hid judgeT; simp [hm]
    replace hm := hid hm
    rw [hr.out]
    clear hws
    go_enter Try.func27, Try.ntmps27
    go_wp2
    go_ret
    exact ⟨rfl, hbA.out⟩
end Go.Proofs.Ytggfallodkbgcaa.Gt
