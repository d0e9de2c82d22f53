/- DERIVED. Walks: symMerge by induction; SortStableFunc; lane's sorted. No statement is proved here. -/
import Derived.Test.YtealopempjempaaSortZ
namespace Go.Proofs.Ytealopempjempaa.So
set_option linter.unusedVariables false
set_option linter.unusedSimpArgs false
open Go.RowKit Go.Proofs.Ytealopempjempaa.K Go.Proofs.Ytealopempjempaa.Sp Go.Proofs.Ytealopempjempaa.Lb
theorem sym_ok : ∀ N, SymOk N
  | 0 => fun _ _ _ _ _ _ _ _ _ _ _ _ _ _ h => by omega
  | N + 1 => fun w0 w g kb ex x u v y n cap a m b hN h hu hv hu0 hv0 hn hc hm ha hmm hb => by
    by_cases h1 : u.length = 1
    · obtain ⟨p, rfl⟩ := List.length_eq_one_iff.1 h1
      exact symLeft_c (p := p) (by simpa using h) hv (by simpa using hn) hc hm a m b ha (by simpa using hmm) (by simpa using hb)
    · by_cases h2 : v.length = 1
      · obtain ⟨p, rfl⟩ := List.length_eq_one_iff.1 h2
        exact symRight_c h hu (by omega) hn hc hm a m b ha hmm (by simpa using hb)
      · exact sym_step N (hid (sym_ok N)) (by omega) h hu hv (by omega) (by omega) hn hc hm a m b ha hmm hb
theorem sym_c {w0 w : World} {g kb : Nat} {ex : List Value} {x u v y : List (Value × Msg)} {n cap : Nat} (h : SortAt w0 w g kb (x ++ (u ++ v) ++ y) ex) (hu : Srt laneOf u) (hv : Srt laneOf v) (hu0 : 0 < u.length) (hv0 : 0 < v.length) (hn : n = (x ++ (u ++ v) ++ y).length) (hc : n ≤ cap) (hm : n ≤ 1000000) (a m b : Int) (ha : a = x.length) (hmm : m = x.length + u.length) (hb : b = x.length + u.length + v.length) :
    Calls Try.prog 93 #[.slice (some ⟨g, 0, none⟩) n cap, .int .i64 a, .int .i64 m, .int .i64 b, cmpV kb] w (SortPost w0 g kb ex x (u ++ v) y) :=
  sym_ok (u.length + v.length + 1) w0 w g kb ex x u v y n cap a m b (by omega) h hu hv hu0 hv0 hn hc hm ha hmm hb
theorem sortL_parts (u v : List (Value × Msg)) : sortL laneOf (sortL laneOf u ++ sortL laneOf v) = sortL laneOf (u ++ v) :=
  sortL_of (((sortL_stab u).app (sortL_stab v)).trans (sortL_stab _)) (sortL_srt _)
def StablePost (w0 : World) (g kb : Nat) (ex : List Value) (s : List (Value × Msg)) (e : Ending) (w' : World) : Prop := e = .returned (.tuple #[]) ∧ SortAt w0 w' g kb (sortL laneOf s) ex
set_option maxHeartbeats 2000000 in
set_option maxRecDepth 100000 in
theorem stable_c {w0 w : World} {g kb : Nat} {ex : List Value} {s : List (Value × Msg)} {n cap : Nat} (h : SortAt w0 w g kb s ex) (hn : n = s.length) (h40 : s.length < 40) (hc : n ≤ cap) (hm : n ≤ 1000000) :
    Calls Try.prog 89 #[.slice (some ⟨g, 0, none⟩) n cap, .int .i64 n, cmpV kb] w (StablePost w0 g kb ex s) := by
  have hn40 : n < 40 := by omega
  by_cases h20 : n < 20
  · have hi : Calls Try.prog 92 #[.slice (some ⟨g, 0, none⟩) n cap, .int .i64 0, .int .i64 n, cmpV kb] w _ := insSort_c (x := []) (u := s) (y := []) (by simpa using h) (by simpa using hn) hc hm _ _ (by simp) (by simp; omega)
    have hfin := hid (fun w' (h : SortAt w0 w' g kb ([] ++ sortL laneOf s ++ []) ex) => show StablePost w0 g kb ex s (.returned (.tuple #[])) w' from ⟨rfl, by simpa using h⟩)
    unfold cmpV at *
    replace hi := hid hi
    replace h := hid h
    replace hn := hid hn
    clear h40
    go_enter Try.func89, Try.ntmps89
    go_wp2
    go_loopg [7, 8] 0 (fun gg a b wr => a = .int .i64 0 ∧ b = .int .i64 20 ∧ w = wr)
    case atStart => exact ⟨rfl, rfl, rfl⟩
    case round =>
      obtain ⟨rfl, rfl, rfl⟩ := hrel
      go_wp2_with (first | (go_at_call 92; (with_reducible refine (hi.out).mono ?_); rintro e w3 ⟨rfl, hw3⟩; have hf := hid (hfin.out _ hw3); clear hw3))
      go_loopg [6, 7, 8, 9] 0 (fun gg s6 a b c wr => s6 = .int .i64 20 ∧ w3 = wr)
      case atStart => exact ⟨rfl, rfl⟩
      case round =>
        obtain ⟨rfl, rfl⟩ := hrel
        go_wp2
        go_end0
        exact hf.out
  · have hi1 : Calls Try.prog 92 #[.slice (some ⟨g, 0, none⟩) n cap, .int .i64 0, .int .i64 20, cmpV kb] w _ := insSort_c (x := []) (u := s.take 20) (y := s.drop 20) (by simpa using h) (by simp; omega) hc hm _ _ (by simp) (by simp; omega)
    have hi2 := hid (fun (w1 : World) (h1 : SortAt w0 w1 g kb ([] ++ sortL laneOf (s.take 20) ++ s.drop 20) ex) => show Calls Try.prog 92 #[.slice (some ⟨g, 0, none⟩) n cap, .int .i64 20, .int .i64 n, cmpV kb] w1 (SortPost w0 g kb ex (sortL laneOf (s.take 20)) (s.drop 20) []) from insSort_c (x := sortL laneOf (s.take 20)) (u := s.drop 20) (y := []) (by simpa using h1) (by simp [sortL_len]; omega) hc hm _ _ (by simp [sortL_len]; omega) (by simp [sortL_len]; omega))
    have hi3 := hid (fun (w1 : World) (h1 : SortAt w0 w1 g kb (sortL laneOf (s.take 20) ++ sortL laneOf (s.drop 20) ++ []) ex) (hlt : 20 < n) => show Calls Try.prog 93 #[.slice (some ⟨g, 0, none⟩) n cap, .int .i64 0, .int .i64 20, .int .i64 n, cmpV kb] w1 (SortPost w0 g kb ex [] (sortL laneOf (s.take 20) ++ sortL laneOf (s.drop 20)) []) from sym_c (x := []) (u := sortL laneOf (s.take 20)) (v := sortL laneOf (s.drop 20)) (y := []) (by simpa using h1) (sortL_srt _) (sortL_srt _) (by simp [sortL_len]; omega) (by simp [sortL_len]; omega) (by simp [sortL_len]; omega) hc hm _ _ _ (by simp) (by simp [sortL_len]; omega) (by simp [sortL_len]; omega))
    have hfin := hid (fun w' (h : SortAt w0 w' g kb ([] ++ sortL laneOf (sortL laneOf (s.take 20) ++ sortL laneOf (s.drop 20)) ++ []) ex) => show StablePost w0 g kb ex s (.returned (.tuple #[])) w' from ⟨rfl, by rw [sortL_parts, List.take_append_drop] at h; simpa using h⟩)
    have hfin2 := hid (fun w' (h : SortAt w0 w' g kb (sortL laneOf (s.take 20) ++ sortL laneOf (s.drop 20) ++ []) ex) (h20 : n ≤ 20) => show StablePost w0 g kb ex s (.returned (.tuple #[])) w' from ⟨rfl, by
      have e : s.drop 20 = [] := List.drop_of_length_le (by omega)
      have e2 : s.take 20 = s := List.take_of_length_le (by omega)
      rw [e, e2] at h
      simpa [sortL] using h⟩)
    unfold cmpV at *
    have hge : 20 ≤ n := by omega
    replace hi1 := hid hi1
    replace h := hid h
    replace hn := hid hn
    clear h40
    go_enter Try.func89, Try.ntmps89
    go_wp2
    go_loopg [7, 8] 1 (fun gg a b wr => (gg = 1 ∧ a = .int .i64 0 ∧ b = .int .i64 20 ∧ w = wr) ∨ (gg = 0 ∧ a = .int .i64 20 ∧ b = .int .i64 40 ∧ SortAt w0 wr g kb ([] ++ sortL laneOf (s.take 20) ++ s.drop 20) ex))
    case atStart => exact .inl ⟨rfl, rfl, rfl, rfl⟩
    case round =>
      rcases hrel with ⟨rfl, rfl, rfl, rfl⟩ | ⟨rfl, rfl, rfl, hS1⟩
      · go_wp2_with (first | (go_at_call 92; (with_reducible refine (hi1.out).mono ?_); rintro e w3 ⟨rfl, hw3⟩; replace hw3 := hid hw3))
        go_roundg 0
        case rel => exact .inr ⟨rfl, rfl, rfl, hw3.out⟩
        case measure => omega
      · replace hS1 := hid hS1
        go_wp2_with (first | (go_at_call 92; (with_reducible refine (hi2.out _ hS1.out).mono ?_); rintro e w3 ⟨rfl, hw3⟩; replace hw3 := hid hw3))
        go_loopg [6, 7, 8, 9] 1 (fun gg s6 a b c wr => (gg = 1 ∧ s6 = .int .i64 20 ∧ w3 = wr) ∨ (gg = 0 ∧ s6 = .int .i64 40 ∧ SortAt w0 wr g kb ([] ++ sortL laneOf (sortL laneOf (s.take 20) ++ sortL laneOf (s.drop 20)) ++ []) ex))
        case atStart => exact .inl ⟨rfl, rfl, rfl⟩
        case round =>
          rcases hrel with ⟨rfl, rfl, rfl⟩ | ⟨rfl, rfl, hS3⟩
          · by_cases hlt : 20 < n
            · go_wp2
              go_loopg [7, 8] 0 (fun gg a b wr => a = .int .i64 0 ∧ b = .int .i64 40 ∧ w3 = wr)
              case atStart => exact ⟨rfl, rfl, rfl⟩
              case round =>
                obtain ⟨rfl, rfl, rfl⟩ := hrel
                go_wp2_with (first | (go_at_call 93; (with_reducible refine (hi3.out _ hw3.out hlt).mono ?_); rintro e w4 ⟨rfl, hw4⟩; replace hw4 := hid hw4))
                go_roundg 0
                case rel => exact .inr ⟨rfl, rfl, hw4.out⟩
                case measure => omega
            · have hf := hid (hfin2.out _ hw3.out (by omega))
              go_wp2
              go_end0
              exact hf.out
          · have hf := hid (hfin.out _ hS3)
            clear hS3
            go_wp2
            go_end0
            exact hf.out
set_option maxHeartbeats 2000000 in
theorem sortStable_c {w0 w : World} {g kb : Nat} {ex : List Value} {s : List (Value × Msg)} {n cap : Nat} (h : SortAt w0 w g kb s ex) (hn : n = s.length) (h40 : s.length < 40) (hc : n ≤ cap) (hm : n ≤ 1000000) :
    Calls Try.prog 83 #[.slice (some ⟨g, 0, none⟩) n cap, cmpV kb] w (StablePost w0 g kb ex s) := by
  have hs := stable_c h hn h40 hc hm
  have hn40 : n < 40 := by omega
  unfold cmpV at *
  replace hs := hid hs
  replace h := hid h
  replace hn := hid hn
  clear h40
  go_enter Try.func83, Try.ntmps83
  go_wp2_with (first | (go_at_call 89; (with_reducible refine (hs.out).mono ?_); rintro e w4 ⟨rfl, hw4⟩; replace hw4 := hid hw4))
  go_end0
  exact ⟨rfl, hw4.out⟩
theorem insSort0 (w : World) (ao : Option Addr) (f : Value) : Calls Try.prog 92 #[.slice ao 0 0, .int .i64 0, .int .i64 0, f] w fun e w' => e = .returned (.tuple #[]) ∧ w = w' := by
  go_enter Try.func92, Try.ntmps92
  go_wp2
  go_loopg [8, 9] 0 (fun gg a b wr => a = .int .i64 1 ∧ w = wr)
  case atStart => exact ⟨rfl, rfl⟩
  case round =>
    obtain ⟨rfl, rfl⟩ := hrel
    go_wp2
    go_end0
    exact ⟨rfl, rfl⟩
theorem stable0 (w : World) (ao : Option Addr) (f : Value) : Calls Try.prog 89 #[.slice ao 0 0, .int .i64 0, f] w fun e w' => e = .returned (.tuple #[]) ∧ w = w' := by
  go_enter Try.func89, Try.ntmps89
  go_wp2
  go_loopg [7, 8] 0 (fun gg a b wr => a = .int .i64 0 ∧ b = .int .i64 20 ∧ w = wr)
  case atStart => exact ⟨rfl, rfl, rfl⟩
  case round =>
    obtain ⟨rfl, rfl, rfl⟩ := hrel
    go_wp2_with (first | (go_at_call 92; (with_reducible refine (insSort0 _ ao f).mono ?_); rintro e w3 ⟨rfl, rfl⟩))
    go_loopg [6, 7, 8, 9] 0 (fun gg s6 a b c wr => s6 = .int .i64 20 ∧ w = wr)
    case atStart => exact ⟨rfl, rfl⟩
    case round =>
      obtain ⟨rfl, rfl⟩ := hrel
      go_wp2
      go_end0
      exact ⟨rfl, rfl⟩
theorem sortStable0 (w : World) (ao : Option Addr) (f : Value) : Calls Try.prog 83 #[.slice ao 0 0, f] w fun e w' => e = .returned (.tuple #[]) ∧ w = w' := by
  go_enter Try.func83, Try.ntmps83
  go_wp2_with (first | (go_at_call 89; (with_reducible refine (stable0 _ ao f).mono ?_); rintro e w4 ⟨rfl, rfl⟩))
  go_end0
  exact ⟨rfl, rfl⟩
theorem elMsg : ElemOk Try.prog 40 37 5 56 := .mk' (z := .agg #[.slice none 0 0, .int .i64 0, .int .i64 0, .int .i64 0, .int .i64 0]) Try.underlying40 (by kernel_rfl) rfl (by decide)
theorem isNilM (w : World) : (binOp .eql 40 (.slice none 0 0) (.slice none 0 0)).run Try.prog w = .ok (.bool true) w := by kernel_rfl
theorem notNilM (w : World) (a : Addr) (n c : Nat) : (binOp .eql 40 (.slice (some a) n c) (.slice none 0 0)).run Try.prog w = .ok (.bool false) w := by kernel_rfl
theorem clonesM_nil (w : World) : Calls Try.prog 82 #[.slice none 0 0] w fun e w' => e = .returned (.slice none 0 0) ∧ w = w' := by
  have hz := isNilM
  go_enter Try.func82, Try.ntmps82
  go_wp2
  go_ret
  exact ⟨rfl, rfl⟩
/-- A row that is copied. -/
def CopyPost (w : World) (ps : List (Value × Msg)) (e : Ending) (w' : World) : Prop :=
  ∃ v', e = .returned v' ∧ Below w.heap.size w w' ∧ ((ps = [] ∧ ∃ ao, v' = .slice ao 0 0) ∨ (0 < ps.length ∧ w'.ownsRow w.heap.size 37 5 v' ps.length (flat encM ps)))
set_option maxRecDepth 100000 in
theorem clonesM_c {ok okw : Nat → Prop} {w : World} {v : Value} {ps : List (Value × Msg)} (h : MsgsAt ok okw w v ps) (hn : ps.length ≤ 1000000) : Calls Try.prog 82 #[v] w (CopyPost w ps) := by
  obtain ⟨ao, cap, rfl⟩ := h.shape
  have h0 := h
  obtain ⟨ao', cap', hv, ⟨hlc, hcm, hnc⟩, -, -⟩ := h0
  simp only [Value.slice.injEq] at hv
  obtain ⟨rfl, -, rfl⟩ := hv
  cases ao with
  | none =>
    have h0 : cap = 0 := hnc rfl
    have hx0 : ps = [] := List.eq_nil_of_length_eq_zero (by omega)
    subst hx0 h0
    exact (clonesM_nil w).mono fun e w' ⟨he, hw⟩ => ⟨_, he, by subst hw; exact ⟨Below.refl _ _, .inl ⟨rfl, none, rfl⟩⟩⟩
  | some a =>
    have h1 := h.below ((Below.refl w.heap.size w).alloc (Nat.le_refl _) (.cells #[] 37))
    obtain ⟨v', w', hr, hb, hz, hp⟩ := run_clone (ty := 40) (t := 40) elMsg (some ⟨w.heap.size, 0, none⟩) (h1.src elMsg.u) (by unfold maxLen; omega) (by omega)
    have hB : Below w.heap.size w w' := Below.next ((Below.refl _ _).alloc (Nat.le_refl _) _) hb (by simp)
    have hfin := hid (show CopyPost w ps (.returned v') w' from ⟨v', rfl, hB, by
      by_cases hl : ps.length = 0
      · obtain ⟨rfl, rfl⟩ := hz hl
        exact .inl ⟨List.eq_nil_of_length_eq_zero hl, _, rfl⟩
      · refine .inr ⟨by omega, ?_⟩
        have := hp (by omega)
        have hle : w.heap.size ≤ (w.alloc (.cells #[] 37)).heap.size := by simp
        exact own_mono this hle⟩)
    have hsh : ∃ a b c, v' = .slice a b c := by
      by_cases hl : ps.length = 0
      · obtain ⟨rfl, rfl⟩ := hz hl
        exact ⟨_, _, _, rfl⟩
      · obtain ⟨a, c, e⟩ := own_shape (hp (by omega)); exact ⟨a, _, c, e⟩
    obtain ⟨a', b', c', rfl⟩ := hsh
    replace hB := hid hB
    replace hp := hid hp
    replace hz := hid hz
    replace hb := hid hb
    replace h1 := hid h1
    replace h := hid h
    have hzn := notNilM
    go_enter Try.func82, Try.ntmps82
    go_wp2_with (at_builtin; refine wpList_append_run rfl (.tmp 5) (.tmp 6) 40 rfl rfl rfl hr ?_)
    go_ret
    exact hfin.out
/-- A key: one of the two closures that give a message's lane. -/
def KeyFn (f : Value) : Prop := f = .func (.func 73) #[] #[] ∨ f = .func (.func 81) #[] #[]
def SortedPost (okw : Nat → Prop) (w : World) (ps : List (Value × Msg)) (e : Ending) (w' : World) : Prop :=
  ∃ v', e = .returned v' ∧ MsgsAt (fun b => w.heap.size ≤ b) okw w' v' (sortL laneOf ps) ∧ Below w.heap.size w w'
set_option maxHeartbeats 2000000 in
set_option maxRecDepth 100000 in
theorem sorted_c {ok okw : Nat → Prop} {w : World} {v : Value} {ps : List (Value × Msg)} (h : MsgsAt ok okw w v ps) (hn : ps.length < 40) {f : Value} (hf : KeyFn f) : Calls Try.prog 72 #[v, f] w (SortedPost okw w ps) := by
  obtain ⟨ao, cap, rfl⟩ := h.shape
  have hbA := (Below.refl w.heap.size w).alloc (Nat.le_refl _) (.cells #[f] 111)
  have hcl := clonesM_c (h.below hbA) (by omega)
  have hkp : pts (w.alloc (.cells #[f] 111)) w.heap.size [f] 111 := pts.newA w _ _
  have hwords := hid h.words
  replace hcl := hid hcl
  have hbA := hid hbA
  have hkp := hid hkp
  replace h := hid h
  have hnil : Hid (∀ w' v', Below w.heap.size w w' → (∃ ao, v' = .slice ao 0 0) → ps = [] → SortedPost okw w ps (.returned v') w') := hid fun w' v' hb ⟨ao, hv⟩ he => by
    subst hv he
    have e : sortL laneOf ([] : List (Value × Msg)) = [] := rfl
    exact ⟨_, rfl, by rw [e]; exact ⟨ao, 0, rfl, ⟨by simp, by simp [maxLen], fun _ => rfl⟩, WordsIn.nil _ _, .inl rfl⟩, hb⟩
  rcases hf with rfl | rfl
  all_goals
    have hkey : Hid (∀ w1, Below (w.heap.size + 1) (w.alloc (.cells _ 111)) w1 → KeyAt w1 w.heap.size) := hid fun w1 h1 => by
      have := (hkp.out.belowOf h1 (by omega)).cell 0
      simp only [List.getElem?_cons_zero] at this
      first | exact .inl this | exact .inr this
    go_enter Try.func72, Try.ntmps72
    go_upto_region 2 with (first | (go_at_call 82; (with_reducible refine (hcl.out).mono ?_); rintro e w1 ⟨v', rfl, hb1, hor⟩; replace hb1 := hid hb1; replace hor := hid hor))
    rcases hor.out with ⟨he, ao', rfl⟩ | ⟨hpos, hown⟩
    · have hf := hid (hnil.out w1 _ (Below.next hbA.out hb1.out (by simp)) ⟨ao', rfl⟩ he)
      go_wp2_with (first | (go_at_call 83; (with_reducible refine (sortStable0 _ ao' _).mono ?_); rintro e w4 ⟨rfl, rfl⟩))
      go_ret
      exact hf.out
    · obtain ⟨g, cap2, ex, rfl, hg, hpt, hc2, hm2⟩ := own_split hown hpos
      have hB1 := Below.next hbA.out hb1.out (by simp)
      have hS : SortAt w1 w1 g w.heap.size ps ex := ⟨hpt, Chg.refl _ _, hkey.out _ (by have := hb1.out; simpa using this), by simp at hg; omega, fun p hp => let ⟨a, c, e⟩ := hwords.out p hp |>.shape; ⟨a, _, c, e⟩⟩
      have hso := sortStable_c hS rfl hn hc2 (by omega)
      have hfin := hid (fun w' (h : SortAt w1 w' g w.heap.size (sortL laneOf ps) ex) => show SortedPost okw w ps (.returned (.slice (some ⟨g, 0, none⟩) ps.length cap2)) w' from by
        have hB : Below w.heap.size w w' := hB1.trans (h.chg.toBelow hB1.size (fun i hi => by have hi : i = g := hi; simp at hg; omega))
        have hW : WordsIn okw w' (sortL laneOf ps) := (hwords.out.sub (fun p hp => (sortL_mem _ _).1 hp)).below hB
        refine ⟨_, rfl, ⟨_, cap2, by rw [sortL_len], ⟨by rw [sortL_len]; exact hc2, hm2, fun h => by cases h⟩, hW, .inr ⟨g, 0, rfl, by simp at hg; omega, h.at_.lt, fun i hi j hj => ?_⟩⟩, hB⟩
        rw [Nat.zero_add, h.at_.cell, flat_get encM_len _ ex i j hi hj])
      unfold cmpV at hso
      replace hso := hid hso
      clear hS hown hpt
      go_wp2_with (first | (go_at_call 83; (with_reducible refine (hso.out).mono ?_); rintro e w4 ⟨rfl, hw4⟩; replace hw4 := hid (hfin.out _ hw4)))
      go_ret
      exact hw4.out
end Go.Proofs.Ytealopempjempaa.So
