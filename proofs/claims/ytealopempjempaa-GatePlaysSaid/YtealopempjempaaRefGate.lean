/- DERIVED. Walks: the reference's judging, its bucket. No statement is proved here. -/
import Derived.Test.YtealopempjempaaJudgeW
import Derived.Test.YtealopempjempaaBucketW
namespace Go.Proofs.Ytealopempjempaa.Gt
set_option linter.unusedVariables false
set_option linter.unusedSimpArgs false
open Go.RowKit Go.Proofs.Ytealopempjempaa.K Go.Proofs.Ytealopempjempaa.Lb Go.Proofs.Ytealopempjempaa.La Go.Proofs.Ytealopempjempaa.Cf
set_option maxHeartbeats 2000000 in
theorem rjudge_c {ok : Nat → Prop} {w : World} {v : Value} {ws : List Int} (k : Chan) (mode lane : Int) (h : IntsAt ok w v ws) : Calls Try.prog 14 #[aggC k, .int .i64 mode, .int .i64 lane, v] w (JudgePost w (judgeT k mode lane ws)) := by
  obtain ⟨ao, cap, rfl⟩ := h.shape
  have hbA := hid ((Below.refl w.heap.size w).alloc (Nat.le_refl _) (.cells (encC k).toArray 23))
  have hpA := h.below ((Below.refl w.heap.size w).alloc (Nat.le_refl _) (.cells (encC k).toArray 23))
  obtain ⟨-, hlc, hcm, hget⟩ := hpA.get
  have hws : ws = [] ↔ ws.length = 0 := by simp
  unfold encC at hbA hget
  unfold aggC
  replace hget := hid hget
  clear h hpA
  by_cases hm : mode = 0
  · subst hm
    by_cases hk : k.kind = 1
    · have hk1 : (k.kind != 1) = false := by simp [hk]
      by_cases hl : lane < 0
      · have hr : Hid (judgeT k 0 lane ws = 3) := by unfold Hid judgeT; simp [hk, hl]
        replace hk := hid hk
        rw [hr.out]
        clear hws
        go_enter Try.func14, Try.ntmps14
        go_wp2
        go_ret
        exact ⟨rfl, hbA.out⟩
      · have hl0 : 0 ≤ lane := by omega
        by_cases hl2 : k.lanes ≤ lane
        · have hr : Hid (judgeT k 0 lane ws = 3) := by unfold Hid judgeT; simp [hk, hl2]
          replace hk := hid hk
          rw [hr.out]
          clear hws
          go_enter Try.func14, Try.ntmps14
          go_wp2
          go_ret
          exact ⟨rfl, hbA.out⟩
        · have hl3 : lane < k.lanes := by omega
          by_cases hn : ws.length = 0
          · have hr : Hid (judgeT k 0 lane ws = 3) := by unfold Hid judgeT; simp [hk, hws.2 hn]
            have hn1 : (ws.length : Int) < 1 := by omega
            replace hk := hid hk
            replace hn := hid hn
            rw [hr.out]
            clear hws
            go_enter Try.func14, Try.ntmps14
            go_wp2
            go_ret
            exact ⟨rfl, hbA.out⟩
          · have hn1 : (1 : Int) ≤ ws.length := by omega
            by_cases hw2 : k.words < ws.length
            · have hr : Hid (judgeT k 0 lane ws = 3) := by unfold Hid judgeT; simp [hk, hw2]
              replace hk := hid hk
              rw [hr.out]
              clear hws
              go_enter Try.func14, Try.ntmps14
              go_wp2
              go_ret
              exact ⟨rfl, hbA.out⟩
            · have hw3 : (ws.length : Int) ≤ k.words := by omega
              have hr3 : Hid (ws.any badWord = true → judgeT k 0 lane ws = 3) := hid fun ha => by rw [judge_words hk hl0 hl3 hn hw3, if_pos ha]
              have hr0 : Hid (ws.any badWord = false → judgeT k 0 lane ws = 0) := hid fun ha => by rw [judge_words hk hl0 hl3 hn hw3, if_neg (by rw [ha]; simp)]
              replace hk := hid hk
              replace hn := hid hn
              clear hws
              go_enter Try.func14, Try.ntmps14
              go_wp2
              go_loopg [9] ws.length (fun g i wr => (w.alloc (.cells #[.int .i64 k.kind, .int .i64 k.frm, .int .i64 k.to, .int .i64 k.words, .int .i64 k.refresh, .int .i64 k.lanes, .int .i64 k.depth, .int .i64 k.hold, .int .i64 k.life, .int .i64 k.rate, .int .i64 k.cap] 23)) = wr ∧ ∃ j : Nat, j ≤ ws.length ∧ g = ws.length - j ∧ i = .int .i64 j ∧ ∀ x ∈ ws.take j, badWord x = false)
              case atStart => exact ⟨rfl, 0, Nat.zero_le _, rfl, rfl, by simp⟩
              case round =>
                obtain ⟨hwr, j, hj, hgj, rfl, hnot⟩ := hrel
                subst hwr
                by_cases hlt : j < ws.length
                · obtain ⟨g, o, rfl, -, hg, ck⟩ := hget.out j hlt
                  have hji : (j : Int) < ws.length := by omega
                  cases he : badWord ws[j] with
                  | true =>
                    have hi := hid (hr3.out (List.any_eq_true.2 ⟨ws[j], List.getElem_mem hlt, he⟩))
                    clear hnot
                    unfold badWord at he
                    simp only [Bool.or_eq_true, decide_eq_true_eq] at he
                    generalize ws[j] = x at ck he
                    by_cases h0 : x < 0
                    · clear he
                      go_wp2
                      go_ret
                      exact ⟨by rw [hi.out]; rfl, hbA.out⟩
                    · have h1 : 2147483647 < x := by omega
                      have h00 : 0 ≤ x := by omega
                      clear he
                      go_wp2
                      go_ret
                      exact ⟨by rw [hi.out]; rfl, hbA.out⟩
                  | false =>
                    have hn2 := hid (show ∀ x ∈ ws.take (j + 1), badWord x = false from fun x hx => by
                      rw [List.take_succ_eq_append_getElem hlt] at hx
                      rcases List.mem_append.1 hx with hx | hx
                      · exact hnot x hx
                      · simp at hx; subst hx; exact he)
                    clear hnot
                    unfold badWord at he
                    simp only [Bool.or_eq_false_iff, decide_eq_false_iff_not] at he
                    generalize ws[j] = x at ck he
                    have h0 : 0 ≤ x := by omega
                    have h1 : x ≤ 2147483647 := by omega
                    clear he
                    go_wp2
                    go_roundg (ws.length - (j + 1))
                    case rel => exact ⟨rfl, j + 1, by omega, rfl, by go_num, hn2.out⟩
                    case measure => omega
                · obtain rfl : j = ws.length := by omega
                  rw [List.take_length] at hnot
                  have hi := hid (hr0.out (by rw [List.any_eq_false]; intro x hx; simpa using hnot x hx))
                  clear hnot
                  go_wp2
                  go_ret
                  exact ⟨by rw [hi.out]; rfl, hbA.out⟩
    · have hk1 : (k.kind != 1) = true := by simpa using hk
      have hr : Hid (judgeT k 0 lane ws = 4) := by unfold Hid judgeT; simp [hk]
      replace hk := hid hk
      rw [hr.out]
      clear hws
      go_enter Try.func14, Try.ntmps14
      go_wp2
      go_ret
      exact ⟨rfl, hbA.out⟩
  · have hm1 : (mode != 0) = true := by simpa using hm
    have hr : Hid (judgeT k mode lane ws = 5) := by unfold Hid judgeT; simp [hm]
    replace hm := hid hm
    rw [hr.out]
    clear hws
    go_enter Try.func14, Try.ntmps14
    go_wp2
    go_ret
    exact ⟨rfl, hbA.out⟩
end Go.Proofs.Ytealopempjempaa.Gt
