/- DERIVED. The walks over the reference's wheel: Cancel, Keys, Until, Set, Due. No statement is proved here. -/
import Derived.Test.YtallemgagloagaaK6
import Derived.Test.YtallemgagloagaaWheelAgainP
import Derived.Test.YtallemgagloagaaWheelH
namespace Go.Proofs.Ytallemgagloagaa.Rw
set_option linter.unusedVariables false
set_option linter.unusedSimpArgs false
open Go.RowKit Go.Proofs.Ytallemgagloagaa.K Go.Proofs.Ytallemgagloagaa.Lb Go.Proofs.Ytallemgagloagaa.Wh
def encT (e : Ent) : List Value := [.int .i64 e.k, .int .i64 e.u]
theorem encT_len (e : Ent) : (encT e).length = 2 := rfl
theorem encT_one (e : Ent) : ∀ u ∈ encT e, u.oneCell' = true := by
  intro u hu
  simp only [encT, List.mem_cons, List.not_mem_nil, or_false] at hu
  rcases hu with rfl | rfl <;> rfl
theorem elT : ElemOk Try.prog 42 53 2 16 := .mk' (z := .agg #[.int .i64 0, .int .i64 0]) Try.underlying42 (by kernel_rfl) rfl (by decide)
abbrev TAt := RowAt encT 2
section
variable {ok : Nat → Prop} {w : World} {v : Value} {l : List Ent}
theorem TAt.cells {ao : Option Addr} {n cap : Nat} (h : TAt ok w (.slice ao n cap) l) {i : Nat} (hi : i < l.length) : ∃ g o, ao = some ⟨g, o, none⟩ ∧ ok g ∧ g < w.heap.size ∧ w.cell? ⟨g, o + i * 2, none⟩ = some (.int .i64 l[i].k) ∧ w.cell? ⟨g, o + i * 2 + 1, none⟩ = some (.int .i64 l[i].u) := by
  obtain ⟨-, -, -, hg⟩ := h.get
  obtain ⟨g, o, e, h1, h2, hc⟩ := hg i hi
  exact ⟨g, o, e, h1, h2, hc 0 (by omega), hc 1 (by omega)⟩
def CanPost (w : World) (l' : List Ent) (b : Bool) (e : Ending) (w' : World) : Prop := ∃ v', e = .returned (.tuple #[v', .bool b]) ∧ TAt (fun b => w.heap.size ≤ b) w' v' l' ∧ Below w.heap.size w w'
theorem rm_lt (k : Int) (l : List Ent) : decide ((rmE k l).length < l.length) = hasE l k := by
  cases h : hasE l k with
  | false =>
    have : rmE k l = l := by
      unfold rmE
      rw [List.filter_eq_self]
      intro e he
      have : e.k ≠ k := fun e1 => by rw [← e1, hasE_mem he] at h; cases h
      simpa using this
    rw [this]; simp
  | true =>
    obtain ⟨e, he, rfl⟩ := List.mem_map.1 ((hasE_iff l k).1 h)
    apply decide_eq_true
    unfold rmE
    refine Nat.lt_of_le_of_ne (List.length_filter_le _ _) (fun e1 => ?_)
    have := List.length_filter_eq_length_iff.1 e1 e he
    simp at this
set_option maxHeartbeats 1000000 in
theorem rcancel_c (h : TAt ok w v l) (hsm : l.length < 1000000) (k : Int) : Calls Try.prog 19 #[v, .int .i64 k] w (CanPost w (rmE k l) (hasE l k)) := by
  obtain ⟨ao, cap, rfl⟩ := h.shape
  obtain ⟨-, hc1, hc2, -⟩ := h.get
  have hstart := Two.start (α := Ent) (β := Ent) encT encT 53 53 2 2 (Below.refl w.heap.size w) (Nat.le_refl _)
  have hrl := hid (rm_lt k l)
  replace h := hid h
  go_enter Try.func19, Try.ntmps19
  go_wp2
  go_loopg [7, 6] l.length (fun g i uo wr => ∃ (j : Nat), j ≤ l.length ∧ g = l.length - j ∧ i = .int .i64 j ∧ Two encT encT w.heap.size w wr 53 53 2 2 uo (.slice none 0 0) (rmE k (l.take j)) ([] : List Ent))
  case atStart => exact ⟨0, by omega, rfl, rfl, hstart⟩
  case round =>
    obtain ⟨j, hj, hgj, rfl, hT⟩ := hrel
    by_cases hlt : j < l.length
    · have d1 : decide ((j : Int) < l.length) = true := decide_eq_true (by omega)
      obtain ⟨g, o, rfl, -, hgl, x0, x1⟩ := TAt.cells (h.out.below hT.below) hlt
      have hlo : (rmE k (l.take j)).length ≤ j := filter_take_le l j (fun e => !(e.k == k))
      have hft := filter_take (fun e : Ent => !(e.k == k)) hlt
      obtain ⟨⟨ao2, co2, rfl⟩, -⟩ := hT.shapes
      replace hT := hid hT
      by_cases he : l[j].k = k
      · have dk : (l[j].k != k) = false := by simp [he]
        have hf1 := hid (show rmE k (l.take (j + 1)) = rmE k (l.take j) by unfold rmE; rw [hft]; simp [he])
        replace he := hid he
        clear hft
        go_wp2
        go_roundg (l.length - (j + 1))
        case rel => exact ⟨j + 1, by omega, rfl, by go_num, by rw [hf1.out]; exact hT.out⟩
        case measure => omega
      · have dk : (l[j].k != k) = true := by simpa using he
        have hf1 := hid (show rmE k (l.take (j + 1)) = rmE k (l.take j) ++ [l[j]] by unfold rmE; rw [hft]; simp [he])
        replace he := hid he
        clear hft
        go_wp2_with (first | (at_builtin; (refine Two.wpA elT (hT.out.alloc _) rfl (.tmp 21) (.tmp 26) rfl rfl (y := l[j]) rfl (heap_at _ _ _ (by simp)) rfl (encT_one _) (by omega) (by omega) ?_; intro g' cap' w6 hT6 hz6; have hT6 := hid hT6)))
        go_roundg (l.length - (j + 1))
        case rel => exact ⟨j + 1, by omega, rfl, by go_num, by rw [hf1.out]; exact hT6.out⟩
        case measure => omega
    · obtain rfl : j = l.length := by omega
      have d1 : decide ((l.length : Int) < l.length) = false := decide_eq_false (by omega)
      rw [List.take_length] at hT
      have hfin := hid (fun (b : Bool) (hb : b = hasE l k) => show CanPost w (rmE k l) (hasE l k) (.returned (.tuple #[u6, .bool b])) wr from ⟨u6, by rw [hb], RowAt.of_own encT_len hT.a rfl, hT.below⟩)
      obtain ⟨⟨ao2, co2, rfl⟩, -⟩ := hT.shapes
      clear hT
      go_wp2
      go_ret2
      exact hfin.out _ hrl.out
theorem rkeys_c (h : TAt ok w v l) (hsm : l.length < 1000000) : Calls Try.prog 24 #[v] w (KeysL w (keysE l)) := by
  obtain ⟨ao, cap, rfl⟩ := h.shape
  obtain ⟨-, hc1, hc2, -⟩ := h.get
  replace h := hid h
  go_enter Try.func24, Try.ntmps24
  go_wp2
  go_loopg [4, 3] l.length (fun g i vo wr => ∃ (j : Nat), j ≤ l.length ∧ g = l.length - j ∧ i = .int .i64 j ∧ wr.ownsRow w.heap.size 3 1 vo j (((keysE l).take j).map (Value.int .i64)) ∧ Below w.heap.size w wr)
  case atStart => exact ⟨0, by omega, rfl, rfl, World.ownsRow_nil _ _ _ _, Below.refl _ _⟩
  case round =>
    obtain ⟨j, hj, hgj, rfl, hown, hb⟩ := hrel
    by_cases hlt : j < l.length
    · have d1 : decide ((j : Int) < l.length) = true := decide_eq_true (by omega)
      obtain ⟨g, o, rfl, -, hgl, x0, x1⟩ := TAt.cells (h.out.below hb) hlt
      have hz := hb.size
      have e : ((keysE l).take (j + 1)).map (Value.int .i64) = ((keysE l).take j).map (Value.int .i64) ++ [.int .i64 l[j].k] := by
        unfold keysE
        rw [List.take_succ_eq_append_getElem (by simpa using hlt)]; simp
      replace e := hid e
      go_wp2_with (first | (at_builtin; (refine wpList_push rfl (.tmp 11) (.tmp 17) 22 rfl Wh.elInt rfl (hown.alloc _) (hb.alloc hz _) (Nat.le_refl _) (by simp; omega) (news := [.int .i64 l[j].k]) rfl rfl (heap_at _ _ _ (by simp)) (by simp [Value.oneCell']) (by unfold maxLen; omega) (by omega) ?_; intro v' w1 hown1 hb1 _ _)))
      go_roundg (l.length - (j + 1))
      case rel => exact ⟨j + 1, by omega, rfl, by go_num, by rw [e.out]; exact hown1, hb1⟩
      case measure => omega
    · obtain rfl : j = l.length := by omega
      have d1 : decide ((l.length : Int) < l.length) = false := decide_eq_false (by omega)
      rw [List.take_of_length_le (by unfold keysE; simp)] at hown
      have hi := IntsAt.of_own (by simpa [keysE] using hown : wr.ownsRow w.heap.size 3 1 u3 (keysE l).length ((keysE l).map (Value.int .i64)))
      have hfin := hid (show KeysL w (keysE l) (.returned u3) wr from ⟨u3, rfl, hi, hb⟩)
      obtain ⟨oa, oc, rfl⟩ := hi.shape
      clear hown hi hb
      go_wp2
      go_ret
      exact hfin.out
theorem runtil_c (h : TAt ok w v l) (k : Int) : Calls Try.prog 22 #[v, .int .i64 k] w fun e w' => e = .returned (.tuple #[.int .i64 (untilE l k), .bool (hasE l k)]) ∧ w = w' := by
  obtain ⟨ao, cap, rfl⟩ := h.shape
  obtain ⟨-, hc1, hc2, -⟩ := h.get
  replace h := hid h
  go_enter Try.func22, Try.ntmps22
  go_wp2
  go_loopg [6] l.length (fun g i wr => ∃ (j : Nat), j ≤ l.length ∧ g = l.length - j ∧ i = .int .i64 j ∧ wr = w ∧ untilE (l.drop j) k = untilE l k ∧ hasE (l.drop j) k = hasE l k)
  case atStart => exact ⟨0, by omega, rfl, rfl, rfl, rfl, rfl⟩
  case round =>
    obtain ⟨j, hj, hgj, rfl, rfl, hu, hh⟩ := hrel
    by_cases hlt : j < l.length
    · have d1 : decide ((j : Int) < l.length) = true := decide_eq_true (by omega)
      obtain ⟨g, o, rfl, -, hgl, x0, x1⟩ := TAt.cells h.out hlt
      rw [List.drop_eq_getElem_cons hlt] at hu hh
      by_cases he : l[j].k = k
      · have dk : (l[j].k == k) = true := by simpa using he
        have hu2 := hid (show untilE l k = l[j].u by rw [← hu]; unfold untilE; rw [List.find?_cons, dk])
        have hh2 := hid (show hasE l k = true by rw [← hh]; unfold hasE; rw [List.any_cons, dk]; rfl)
        replace he := hid he
        clear hu hh
        go_wp2
        go_ret2
        exact ⟨by rw [hu2.out, hh2.out]; rfl, rfl⟩
      · have dk : (l[j].k == k) = false := by simpa using he
        have hu2 := hid (show untilE (l.drop (j + 1)) k = untilE l k by rw [← hu]; unfold untilE; rw [List.find?_cons, dk])
        have hh2 := hid (show hasE (l.drop (j + 1)) k = hasE l k by rw [← hh]; unfold hasE; rw [List.any_cons, dk]; rfl)
        replace he := hid he
        clear hu hh
        go_wp2
        go_roundg (l.length - (j + 1))
        case rel => exact ⟨j + 1, by omega, rfl, by go_num, rfl, hu2.out, hh2.out⟩
        case measure => omega
    · obtain rfl : j = l.length := by omega
      have d1 : decide ((l.length : Int) < l.length) = false := decide_eq_false (by omega)
      rw [List.drop_length] at hu hh
      have hu2 := hid (show untilE l k = 0 from hu.symm)
      have hh2 := hid (show hasE l k = false from hh.symm)
      clear hu hh
      go_wp2
      go_ret2
      exact ⟨by rw [hu2.out, hh2.out]; rfl, rfl⟩
/-- A slice of structs from place J on. -/
def tailV (ao : Option Addr) (n cap J : Nat) : Value := match ao with
  | none => .slice none 0 0
  | some a => if cap - J = 0 then .slice (some a) (n - J) (cap - J) else .slice (some (a.add (J * 2))) (n - J) (cap - J)
theorem TAt.tail {ao : Option Addr} {n cap : Nat} (h : TAt ok w (.slice ao n cap) l) {J : Nat} (hJ : J ≤ n) : TAt ok w (tailV ao n cap J) (l.drop J) := by
  have hn := h.get.1
  have hnc := h.get.2.1
  have hcm := h.get.2.2.1
  obtain ⟨ao', cap', hv, ⟨h1, h2, h3⟩, hx⟩ := h
  simp only [Value.slice.injEq] at hv
  obtain ⟨rfl, -, rfl⟩ := hv
  cases ao with
  | none =>
    have hc0 := h3 rfl
    have hl : l = [] := List.eq_nil_of_length_eq_zero (by omega)
    subst hl
    unfold tailV
    simpa using RowAt.nil encT 2 ok w
  | some a =>
    unfold tailV
    simp only
    split
    · rename_i hc
      have : l.drop J = [] := List.drop_eq_nil_of_le (by omega)
      rw [this]
      exact ⟨some a, cap - J, by simp; omega, ⟨by simp, by unfold maxLen; omega, fun h => (by cases h)⟩, .inl rfl⟩
    · rename_i hc
      rcases hx with rfl | ⟨g, o, e, h4, h5, h6⟩
      · exact ⟨some (a.add (J * 2)), cap - J, by simp at hn ⊢; omega, ⟨by simp, by unfold maxLen; omega, fun h => (by cases h)⟩, .inl (by simp)⟩
      · have e1 : a = ⟨g, o, none⟩ := by simpa using e
        subst e1
        have h7 : TAt ok w (.slice (some ⟨g, o, none⟩) n cap) l := ⟨_, cap, by rw [hn], ⟨h1, h2, h3⟩, .inr ⟨g, o, rfl, h4, h5, h6⟩⟩
        have := RowAt.drop h7 hJ
        have e2 : (⟨g, o, none⟩ : Addr).add (J * 2) = ⟨g, o + J * 2, none⟩ := by unfold Addr.add; split <;> simp_all
        rw [e2]; exact this
def RDuePost (ok : Nat → Prop) (w : World) (rest : List Ent) (ks : List Int) (e : Ending) (w' : World) : Prop := ∃ v' v2, e = .returned (.tuple #[v', v2]) ∧ TAt ok w' v' rest ∧ IntsAt (fun b => w.heap.size ≤ b) w' v2 ks ∧ Below w.heap.size w w'
theorem due_split {now : Int} {l : List Ent} {J : Nat} (h1 : ∀ x ∈ l.take J, lateE now x = true) (h2 : ∀ x ∈ l.drop J, lateE now x = false) : l.filter (lateE now) = l.take J ∧ l.filter (fun e => !lateE now e) = l.drop J := by
  have e : l = l.take J ++ l.drop J := (List.take_append_drop J l).symm
  constructor
  · rw [e, List.filter_append, List.filter_eq_self.2 (by simpa using h1), List.filter_eq_nil_iff.2 (by intro x hx; simp [h2 x (by simpa using hx)])]; simp
  · rw [e, List.filter_append, List.filter_eq_nil_iff.2 (by intro x hx; simp [h1 x (by simpa using hx)]), List.filter_eq_self.2 (by intro x hx; simp [h2 x (by simpa using hx)])]; simp
set_option maxHeartbeats 1000000 in
theorem rdue_c (h : TAt ok w v l) (hsm : l.length < 1000000) (hs : l.Pairwise (fun a b => a.u ≤ b.u)) (h0 : ∀ e ∈ l, 0 ≤ e.u ∧ e.u ≤ 4611686018427387904) (now : Int) : Calls Try.prog 20 #[v, .int .i64 now] w (RDuePost ok w (l.filter (fun e => !lateE now e)) (keysE (l.filter (lateE now)))) := by
  obtain ⟨ao, cap, rfl⟩ := h.shape
  obtain ⟨-, hc1, hc2, -⟩ := h.get
  have hl := hid (fun (e : Ent) (he : e ∈ l) => show lateE now e = decide (e.u ≤ cutT now) by unfold lateE lateT; congr 1; have := h0 e he; rw [show cutT e.u = e.u by unfold cutT; omega])
  replace h := hid h
  replace hs := hid hs
  clear h0
  go_enter Try.func20, Try.ntmps20
  go_upto_block 0 with fail
  go_cut [7, 6] from 8 to 31 (fun sj vo wx => ∃ j : Nat, sj = .int .i64 j ∧ j ≤ l.length ∧ (∀ x ∈ l.take j, lateE now x = true) ∧ (∀ x ∈ l.drop j, lateE now x = false) ∧ wx.ownsRow w.heap.size 3 1 vo j ((keysE (l.take j)).map (Value.int .i64)) ∧ Below w.heap.size w wx)
  case first =>
    go_wp2
    go_loopg [7, 6] l.length (fun g i vo wr => ∃ (j : Nat), j ≤ l.length ∧ g = l.length - j ∧ i = .int .i64 j ∧ (∀ x ∈ l.take j, lateE now x = true) ∧ wr.ownsRow w.heap.size 3 1 vo j ((keysE (l.take j)).map (Value.int .i64)) ∧ Below w.heap.size w wr)
    case atStart => exact ⟨0, by omega, rfl, rfl, (fun x hx => by simp at hx), World.ownsRow_nil _ _ _ _, Below.refl _ _⟩
    case round =>
      obtain ⟨j, hj, hgj, rfl, hlt0, hown, hb⟩ := hrel
      replace hlt0 := hid hlt0
      by_cases hlt : j < l.length
      · obtain ⟨g, o, rfl, -, hgl, x0, x1⟩ := TAt.cells (h.out.below hb) hlt
        have hle := hid (hl.out _ (List.getElem_mem hlt))
        have hdr := hid (show l.drop j = l[j] :: l.drop (j + 1) from List.drop_eq_getElem_cons hlt)
        have hn := hb.size
        replace hown := hid hown
        have hb0 := hid hb
        clear hb
        go_upto_region 3 with fail
        -- REG empennage/empennageref14.Due|3|rDue.3
        refine region_tab 14 [Sp.eq (.int .i64 j), Sp.eq (.slice (some ⟨g, o, none⟩) l.length cap), Sp.eq (.int .i64 l.length), Sp.eq (.bool true), Sp.eq (.bool true), Sp.eq (.slice (some ⟨g, o, none⟩) l.length cap), Sp.eq (.int .i64 j), Sp.eq (.pointer (some ⟨g, o + j * 2, none⟩)), Sp.eq (.pointer (some ⟨g, o + j * 2 + 1, none⟩)), Sp.eq (.int .i64 l[j].u), Sp.eq (.int .i64 now), Sp.eq (.int .i64 (cutT now)), Sp.eq (.bool (lateE now l[j])), Sp.eq (.bool (lateE now l[j]))] (fun _ _ _ _ _ h => h) (by kernel_rfl) (by kernel_rfl) ⟨?_, ?_, ?_, ?_, ?_, ?_, ?_, ?_, ?_, ?_, ?_, ?_, ?_, ?_, trivial⟩ ?_
        · intro ac gs u hb hg h
          have e7 : ac.tmps[7]?.getD undef = .int .i64 j := h.inm 7 rfl rfl
          refine opFree rfl ?_
          exact relMoveT _ rfl e7 (okP hg rfl)
        · intro ac gs u hb hg h
          have e0 : ac.tmps[0]?.getD undef = .slice (some ⟨g, o, none⟩) l.length cap := h.inm 0 rfl rfl
          refine opFree rfl ?_
          exact relMoveT _ rfl e0 (okP hg rfl)
        · intro ac gs u hb hg h
          have e9 : ac.tmps[9]?.getD undef = .slice (some ⟨g, o, none⟩) l.length cap := h.tm 1 9 rfl rfl
          refine opFree rfl ?_
          exact relRun (v := .int .i64 l.length) (w' := u) (by simp [go_sem, e9]) (okP hg rfl)
        · intro ac gs u hb hg h
          have e8 : ac.tmps[8]?.getD undef = .int .i64 j := h.tm 0 8 rfl rfl
          have e10 : ac.tmps[10]?.getD undef = .int .i64 l.length := h.tm 2 10 rfl rfl
          refine opFree rfl ?_
          exact relRun (v := .bool true) (w' := u) (by simp [go_sem, e8, e10, hlt]) (okP hg rfl)
        · intro ac gs u hb hg h
          have e11 : ac.tmps[11]?.getD undef = .bool true := h.tm 3 11 rfl rfl
          refine opFree rfl ?_
          exact relMoveT _ rfl e11 (okP hg rfl)
        · intro ac gs u hb hg h
          have e12 : ac.tmps[12]?.getD undef = .bool true := h.tm 4 12 rfl rfl
          have e0 : ac.tmps[0]?.getD undef = .slice (some ⟨g, o, none⟩) l.length cap := h.inm 0 rfl rfl
          refine opWant 4 12 rfl rfl e12 ?_
          exact relMoveT _ rfl e0 (okP hg rfl)
        · intro ac gs u hb hg h
          have e12 : ac.tmps[12]?.getD undef = .bool true := h.tm 4 12 rfl rfl
          have e7 : ac.tmps[7]?.getD undef = .int .i64 j := h.inm 7 rfl rfl
          refine opWant 4 12 rfl rfl e12 ?_
          exact relMoveT _ rfl e7 (okP hg rfl)
        · intro ac gs u hb hg h
          have e12 : ac.tmps[12]?.getD undef = .bool true := h.tm 4 12 rfl rfl
          have e13 : ac.tmps[13]?.getD undef = .slice (some ⟨g, o, none⟩) l.length cap := h.tm 5 13 rfl rfl
          have e14 : ac.tmps[14]?.getD undef = .int .i64 j := h.tm 6 14 rfl rfl
          refine opWant 4 12 rfl rfl e12 ?_
          exact relRun (v := .pointer (some ⟨g, o + j * 2, none⟩)) (w' := u) (by simp [go_sem, e12, e13, e14, hlt]) (okP hg rfl)
        · intro ac gs u hb hg h
          have e12 : ac.tmps[12]?.getD undef = .bool true := h.tm 4 12 rfl rfl
          have e15 : ac.tmps[15]?.getD undef = .pointer (some ⟨g, o + j * 2, none⟩) := h.tm 7 15 rfl rfl
          refine opWant 4 12 rfl rfl e12 ?_
          exact relRun (v := .pointer (some ⟨g, o + j * 2 + 1, none⟩)) (w' := u) (by simp [go_sem, e12, e15]) (okP hg rfl)
        · intro ac gs u hb hg h
          have e12 : ac.tmps[12]?.getD undef = .bool true := h.tm 4 12 rfl rfl
          have e16 : ac.tmps[16]?.getD undef = .pointer (some ⟨g, o + j * 2 + 1, none⟩) := h.tm 8 16 rfl rfl
          refine opWant 4 12 rfl rfl e12 ?_
          exact relRun (v := .int .i64 l[j].u) (w' := u) (by simp [go_sem, e12, e16, ((hb.cell (p := ⟨g, o + j * 2 + 1, none⟩) hgl).trans x1)]) (okP hg rfl)
        · intro ac gs u hb hg h
          have e12 : ac.tmps[12]?.getD undef = .bool true := h.tm 4 12 rfl rfl
          have e1 : ac.tmps[1]?.getD undef = .int .i64 now := h.inm 1 rfl rfl
          refine opWant 4 12 rfl rfl e12 ?_
          exact relMoveT _ rfl e1 (okP hg rfl)
        · intro ac gs u hb hg h
          have e12 : ac.tmps[12]?.getD undef = .bool true := h.tm 4 12 rfl rfl
          have e18 : ac.tmps[18]?.getD undef = .int .i64 now := h.tm 10 18 rfl rfl
          refine opWant 4 12 rfl rfl e12 ?_
          refine relCall (f := _) (args := #[.int .i64 now]) (by simp [go_sem, e12, e18]; rfl) ?_
          refine (rcut_c u now).mono ?_
          rintro e w' ⟨rfl, rfl⟩
          exact ⟨_, rfl, okP hg rfl⟩
        · intro ac gs u hb hg h
          have e12 : ac.tmps[12]?.getD undef = .bool true := h.tm 4 12 rfl rfl
          have e17 : ac.tmps[17]?.getD undef = .int .i64 l[j].u := h.tm 9 17 rfl rfl
          have e19 : ac.tmps[19]?.getD undef = .int .i64 (cutT now) := h.tm 11 19 rfl rfl
          refine opWant 4 12 rfl rfl e12 ?_
          exact relRun (v := .bool (lateE now l[j])) (w' := u) (by simp [go_sem, e12, e17, e19, hle.out]) (okP hg rfl)
        · intro ac gs u hb hg h
          have e12 : ac.tmps[12]?.getD undef = .bool true := h.tm 4 12 rfl rfl
          have e20 : ac.tmps[20]?.getD undef = .bool (lateE now l[j]) := h.tm 12 20 rfl rfl
          refine opFree rfl ?_
          exact relRun (v := .bool (lateE now l[j])) (w' := u) (by simp [go_sem, e12, e20]) (okP hg rfl)
        intro vs gs u hb hg hr
        have r0 : vs 0 = .int .i64 j := hr 0 (by decide)
        have r1 : vs 1 = .slice (some ⟨g, o, none⟩) l.length cap := hr 1 (by decide)
        have r2 : vs 2 = .int .i64 l.length := hr 2 (by decide)
        have r3 : vs 3 = .bool true := hr 3 (by decide)
        have r4 : vs 4 = .bool true := hr 4 (by decide)
        have r5 : vs 5 = .slice (some ⟨g, o, none⟩) l.length cap := hr 5 (by decide)
        have r6 : vs 6 = .int .i64 j := hr 6 (by decide)
        have r7 : vs 7 = .pointer (some ⟨g, o + j * 2, none⟩) := hr 7 (by decide)
        have r8 : vs 8 = .pointer (some ⟨g, o + j * 2 + 1, none⟩) := hr 8 (by decide)
        have r9 : vs 9 = .int .i64 l[j].u := hr 9 (by decide)
        have r10 : vs 10 = .int .i64 now := hr 10 (by decide)
        have r11 : vs 11 = .int .i64 (cutT now) := hr 11 (by decide)
        have r12 : vs 12 = .bool (lateE now l[j]) := hr 12 (by decide)
        have r13 : vs 13 = .bool (lateE now l[j]) := hr 13 (by decide)
        simp only [List.take_succ_cons, List.take_zero, List.drop_succ_cons, List.drop_zero, putOps, r0, r1, r2, r3, r4, r5, r6, r7, r8, r9, r10, r11, r12, r13]
        simp only [Act.put, List.setIfInBounds_toArray, List.set_cons_succ, List.set_cons_zero]
        clear hr r0 r1 r2 r3 r4 r5 r6 r7 r8 r9 r10 r11 r12 r13
        refine wpList_nil ?_
        -- GER
        have hb2 := hid (Below.next hb0.out hb hn)
        have hown2 := hid (own_of hown.out (fun b e => hb.block b (own_lt hown.out e)))
        have x0' := (hb.cell (p := ⟨g, o + j * 2, none⟩) hgl).trans x0
        have hgl' := Nat.lt_of_lt_of_le hgl hb.size
        have hn2 := hb.size
        clear hb hg x0 x1
        have hle2 : lateE now l[j] = lateT now l[j].u := rfl
        cases hL : lateT now l[j].u with
        | true =>
          have hL1 : lateE now l[j] = true := hL
          have hnx := hid (show ∀ x ∈ l.take (j + 1), lateE now x = true by
            intro x hx
            rw [List.take_succ_eq_append_getElem hlt, List.mem_append, List.mem_singleton] at hx
            rcases hx with hx | rfl
            · exact hlt0.out x hx
            · exact hL1)
          have ek := hid (show (keysE (l.take (j + 1))).map (Value.int .i64) = (keysE (l.take j)).map (Value.int .i64) ++ [.int .i64 l[j].k] by
            unfold keysE
            rw [List.take_succ_eq_append_getElem hlt, List.map_append, List.map_append]; rfl)
          rw [hL1]
          replace hL := hid hL
          replace hL1 := hid hL1
          clear hle2
          go_wp2_with (first | (at_builtin; (refine wpList_push rfl (.tmp 22) (.tmp 28) 22 rfl Wh.elInt (W0 := w) (B := w.heap.size) rfl (hown2.out.alloc _) (hb2.out.alloc (by omega) _) (Nat.le_refl _) (by simp; omega) (news := [.int .i64 l[j].k]) rfl rfl (heap_at _ _ _ (by simp)) (by simp [Value.oneCell']) (by unfold maxLen; omega) (by omega) ?_; intro v' w1 hown1 hb1 _ _; replace hown1 := hid hown1; replace hb1 := hid hb1)))
          go_roundg (l.length - (j + 1))
          case rel => exact ⟨j + 1, by omega, rfl, by go_num, hnx.out, by rw [ek.out]; exact hown1.out, hb1.out⟩
          case measure => omega
        | false =>
          have hL1 : lateE now l[j] = false := hL
          have hall := hid (show ∀ x ∈ l.drop j, lateE now x = false by
            intro x hx
            have hxl : x ∈ l := List.mem_of_mem_drop hx
            rw [hdr.out] at hx
            rcases List.mem_cons.1 hx with rfl | hx'
            · exact hL1
            · rw [hl.out x hxl]
              rw [hl.out _ (List.getElem_mem hlt)] at hL1
              have h3 : (l.drop j).Pairwise (fun a b => a.u ≤ b.u) := hs.out.sublist (List.drop_sublist _ _)
              rw [hdr.out] at h3
              have h4 := (List.pairwise_cons.1 h3).1 x hx'
              have h5 := of_decide_eq_false hL1
              exact decide_eq_false (by omega))
          rw [hL1]
          replace hL := hid hL
          replace hL1 := hid hL1
          clear hle2
          go_wp2
          go_meet
          case rel => exact ⟨j, rfl, by omega, hlt0.out, hall.out, hown2.out, hb2.out⟩
      · obtain rfl : j = l.length := by omega
        have hb0 := hid hb
        replace hown := hid hown
        clear hb
        go_upto_region 3 with fail
        -- REG empennage/empennageref14.Due|3|rDue.3b
        refine region_tab 14 [Sp.eq (.int .i64 l.length), Sp.eq (.slice ao l.length cap), Sp.eq (.int .i64 l.length), Sp.eq (.bool false), Sp.eq (.bool false), Sp.eq (undef), Sp.eq (undef), Sp.eq (undef), Sp.eq (undef), Sp.eq (undef), Sp.eq (undef), Sp.eq (undef), Sp.eq (undef), Sp.eq (.bool false)] (fun _ _ _ _ _ h => h) (by kernel_rfl) (by kernel_rfl) ⟨?_, ?_, ?_, ?_, ?_, ?_, ?_, ?_, ?_, ?_, ?_, ?_, ?_, ?_, trivial⟩ ?_
        · intro ac gs u hb hg h
          have e7 : ac.tmps[7]?.getD undef = .int .i64 l.length := h.inm 7 rfl rfl
          refine opFree rfl ?_
          exact relMoveT _ rfl e7 (okP hg rfl)
        · intro ac gs u hb hg h
          have e0 : ac.tmps[0]?.getD undef = .slice ao l.length cap := h.inm 0 rfl rfl
          refine opFree rfl ?_
          exact relMoveT _ rfl e0 (okP hg rfl)
        · intro ac gs u hb hg h
          have e9 : ac.tmps[9]?.getD undef = .slice ao l.length cap := h.tm 1 9 rfl rfl
          refine opFree rfl ?_
          exact relRun (v := .int .i64 l.length) (w' := u) (by simp [go_sem, e9]) (okP hg rfl)
        · intro ac gs u hb hg h
          have e8 : ac.tmps[8]?.getD undef = .int .i64 l.length := h.tm 0 8 rfl rfl
          have e10 : ac.tmps[10]?.getD undef = .int .i64 l.length := h.tm 2 10 rfl rfl
          refine opFree rfl ?_
          exact relRun (v := .bool false) (w' := u) (by simp [go_sem, e8, e10]) (okP hg rfl)
        · intro ac gs u hb hg h
          have e11 : ac.tmps[11]?.getD undef = .bool false := h.tm 3 11 rfl rfl
          refine opFree rfl ?_
          exact relMoveT _ rfl e11 (okP hg rfl)
        · intro ac gs u hb hg h
          have e12 : ac.tmps[12]?.getD undef = .bool false := h.tm 4 12 rfl rfl
          exact opSkip 4 12 rfl rfl e12 rfl rfl
        · intro ac gs u hb hg h
          have e12 : ac.tmps[12]?.getD undef = .bool false := h.tm 4 12 rfl rfl
          exact opSkip 4 12 rfl rfl e12 rfl rfl
        · intro ac gs u hb hg h
          have e12 : ac.tmps[12]?.getD undef = .bool false := h.tm 4 12 rfl rfl
          exact opSkip 4 12 rfl rfl e12 rfl rfl
        · intro ac gs u hb hg h
          have e12 : ac.tmps[12]?.getD undef = .bool false := h.tm 4 12 rfl rfl
          exact opSkip 4 12 rfl rfl e12 rfl rfl
        · intro ac gs u hb hg h
          have e12 : ac.tmps[12]?.getD undef = .bool false := h.tm 4 12 rfl rfl
          exact opSkip 4 12 rfl rfl e12 rfl rfl
        · intro ac gs u hb hg h
          have e12 : ac.tmps[12]?.getD undef = .bool false := h.tm 4 12 rfl rfl
          exact opSkip 4 12 rfl rfl e12 rfl rfl
        · intro ac gs u hb hg h
          have e12 : ac.tmps[12]?.getD undef = .bool false := h.tm 4 12 rfl rfl
          exact opSkip 4 12 rfl rfl e12 rfl rfl
        · intro ac gs u hb hg h
          have e12 : ac.tmps[12]?.getD undef = .bool false := h.tm 4 12 rfl rfl
          exact opSkip 4 12 rfl rfl e12 rfl rfl
        · intro ac gs u hb hg h
          have e12 : ac.tmps[12]?.getD undef = .bool false := h.tm 4 12 rfl rfl
          have e20 : ac.tmps[20]?.getD undef = undef := h.tm 12 20 rfl rfl
          refine opFree rfl ?_
          exact relRun (v := .bool false) (w' := u) (by simp [go_sem, e12, e20]) (okP hg rfl)
        intro vs gs u hb hg hr
        have r0 : vs 0 = .int .i64 l.length := hr 0 (by decide)
        have r1 : vs 1 = .slice ao l.length cap := hr 1 (by decide)
        have r2 : vs 2 = .int .i64 l.length := hr 2 (by decide)
        have r3 : vs 3 = .bool false := hr 3 (by decide)
        have r4 : vs 4 = .bool false := hr 4 (by decide)
        have r5 : vs 5 = undef := hr 5 (by decide)
        have r6 : vs 6 = undef := hr 6 (by decide)
        have r7 : vs 7 = undef := hr 7 (by decide)
        have r8 : vs 8 = undef := hr 8 (by decide)
        have r9 : vs 9 = undef := hr 9 (by decide)
        have r10 : vs 10 = undef := hr 10 (by decide)
        have r11 : vs 11 = undef := hr 11 (by decide)
        have r12 : vs 12 = undef := hr 12 (by decide)
        have r13 : vs 13 = .bool false := hr 13 (by decide)
        simp only [List.take_succ_cons, List.take_zero, List.drop_succ_cons, List.drop_zero, putOps, r0, r1, r2, r3, r4, r5, r6, r7, r8, r9, r10, r11, r12, r13]
        simp only [Act.put, List.setIfInBounds_toArray, List.set_cons_succ, List.set_cons_zero]
        clear hr r0 r1 r2 r3 r4 r5 r6 r7 r8 r9 r10 r11 r12 r13
        refine wpList_nil ?_
        -- GER
        have hb2 := hid (Below.next hb0.out hb hb0.out.size)
        have hown2 := hid (own_of hown.out (fun b e => hb.block b (own_lt hown.out e)))
        clear hb hg
        go_wp2
        go_meet
        case rel => exact ⟨l.length, rfl, by omega, hlt0.out, (fun x hx => by simp at hx), hown2.out, hb2.out⟩
  case rest =>
    obtain ⟨j, rfl, hj, hA, hB, hown, hb⟩ := hcut
    have hsp := due_split hA hB
    have hi := IntsAt.of_own (by simpa [keysE, Nat.min_eq_left hj] using hown : wc.ownsRow w.heap.size 3 1 u6 (keysE (l.take j)).length ((keysE (l.take j)).map (Value.int .i64)))
    have htl := TAt.tail (h.out.below hb) hj
    have hfin := hid (show RDuePost ok w (l.filter (fun e => !lateE now e)) (keysE (l.filter (lateE now))) (.returned (.tuple #[tailV ao l.length cap j, u6])) wc from ⟨_, _, rfl, by rw [hsp.2]; exact htl, by rw [hsp.1]; exact hi, hb⟩)
    obtain ⟨oa, oc, rfl⟩ := hi.shape
    clear hsp htl hi hown hA hB
    cases ao with
    | none =>
      have hc0 : cap = 0 := by obtain ⟨_, _, e, ⟨_, _, h3⟩, _⟩ := h.out; simp only [Value.slice.injEq] at e; rw [e.2.2]; exact h3 e.1.symm
      have hl0 : l.length = 0 := by omega
      obtain rfl : j = 0 := by omega
      unfold tailV at hfin
      go_wp2
      go_ret2
      exact hfin.out
    | some a =>
      unfold tailV at hfin
      simp only at hfin
      by_cases hcj : cap - j = 0
      · rw [if_pos hcj, hcj] at hfin
        go_wp2
        go_ret2
        exact hfin.out
      · rw [if_neg hcj] at hfin
        go_wp2
        go_ret2
        exact hfin.out
theorem insE_at {e : Ent} : ∀ {l : List Ent} {J : Nat}, (∀ x ∈ l.take J, x.u ≤ e.u) → (∀ x ∈ l.drop J, e.u < x.u) → insE e l = l.take J ++ e :: l.drop J
  | [], J, _, _ => by simp [insE]
  | x :: t, 0, _, h2 => by
    have := h2 x (by simp)
    unfold insE
    rw [if_neg (by omega)]; simp
  | x :: t, J + 1, h1, h2 => by
    have := h1 x (by simp)
    unfold insE
    rw [if_pos this, insE_at (l := t) (J := J) (fun y hy => h1 y (by simp [hy])) (fun y hy => h2 y (by simpa using hy))]
    simp
def RSetPost (w : World) (l' : List Ent) (b : Bool) (e : Ending) (w' : World) : Prop := ∃ v', e = .returned (.tuple #[v', .bool b]) ∧ TAt (fun b => w.heap.size ≤ b) w' v' l' ∧ Below w.heap.size w w'
set_option maxHeartbeats 1000000 in
theorem rset_c (h : TAt ok w v l) (hsm : l.length < 100000) (hs : l.Pairwise (fun a b => a.u ≤ b.u)) (k u s : Int) : Calls Try.prog 18 #[v, .int .i64 k, .int .i64 u] w (RSetPost w (setE l k (cutT u) s) (hasE l k)) := by
  have hc := hid (rcancel_c h (by omega) k)
  obtain ⟨ao, cap, rfl⟩ := h.shape
  have hsR := hid (show (rmE k l).Pairwise (fun a b => a.u ≤ b.u) from hs.filter _)
  have hRl : (rmE k l).length ≤ l.length := List.length_filter_le _ _
  have hRd := hid (show setE l k (cutT u) s = insE ⟨k, cutT u, s⟩ (rmE k l) from rfl)
  generalize hUe : cutT u = U at hRd
  replace hUe := hid hUe
  generalize rmE k l = R at hc hsR hRl hRd
  clear hs
  go_enter Try.func18, Try.ntmps18
  go_upto_region 3 with (first | (go_at_call 19; (with_reducible refine (hc.out).mono ?_); rintro e w1 ⟨v1, rfl, hT, hb⟩; obtain ⟨ra, rc, rfl⟩ := hT.shape; replace hT := hid hT; replace hb := hid hb) | (go_at_call 32; (with_reducible refine (rcut_c _ u).mono ?_); rw [hUe.out]; rintro e w' ⟨rfl, rfl⟩))
  clear hc
  obtain ⟨-, hr1, hr2, -⟩ := hT.out.get
  go_upto_block 0 with fail
  go_cut [11] from 23 to 36 (fun sj wx => ∃ j : Nat, sj = .int .i64 j ∧ j ≤ R.length ∧ (∀ x ∈ R.take j, x.u ≤ U) ∧ (∀ x ∈ R.drop j, U < x.u) ∧ w1 = wx)
  case first =>
    go_wp2
    go_loopg [11] R.length (fun g sj wr => ∃ j : Nat, j ≤ R.length ∧ g = j ∧ sj = .int .i64 j ∧ (∀ x ∈ R.drop j, U < x.u) ∧ w1 = wr)
    case atStart => exact ⟨R.length, by omega, rfl, rfl, (fun x hx => by simp at hx), rfl⟩
    case round =>
      obtain ⟨j, hj, hgj, rfl, hB, rfl⟩ := hrel
      replace hB := hid hB
      rcases Nat.eq_zero_or_pos j with rfl | hj0
      · go_wp2
        go_meet
        case rel => exact ⟨0, rfl, by omega, (fun x hx => by simp at hx), hB.out, rfl⟩
      · obtain ⟨J, rfl⟩ : ∃ J, j = J + 1 := ⟨j - 1, by omega⟩
        obtain ⟨g, o, rfl, -, hgl, x0, x1⟩ := TAt.cells hT.out (show J < R.length by omega)
        have eJ : ((J + 1 : Nat) : Int) - 1 = (J : Int) := by omega
        have hdr := hid (show R.drop J = R[J] :: R.drop (J + 1) from List.drop_eq_getElem_cons (by omega))
        by_cases hlt : U < R[J].u
        · have dl : decide (U < R[J].u) = true := decide_eq_true hlt
          have hB2 := hid (show ∀ x ∈ R.drop J, U < x.u by
            intro x hx
            rw [hdr.out] at hx
            rcases List.mem_cons.1 hx with rfl | hx
            · exact hlt
            · exact hB.out x hx)
          replace hlt := hid hlt
          go_wp2
          go_roundg J
          case rel => exact ⟨J, by omega, rfl, rfl, hB2.out, rfl⟩
          case measure => omega
        · have dl : decide (U < R[J].u) = false := decide_eq_false hlt
          have hA := hid (show ∀ x ∈ R.take (J + 1), x.u ≤ U by
            intro x hx
            rw [List.take_succ_eq_append_getElem (by omega), List.mem_append, List.mem_singleton] at hx
            rcases hx with hx | rfl
            · have h3 : (R.take J ++ R[J] :: R.drop (J + 1)).Pairwise (fun a b => a.u ≤ b.u) := by rw [← hdr.out, List.take_append_drop]; exact hsR.out
              have := (List.pairwise_append.1 h3).2.2 x hx _ List.mem_cons_self
              omega
            · omega)
          replace hlt := hid hlt
          go_wp2
          go_meet
          case rel => exact ⟨J + 1, by go_num, by omega, hA.out, hB.out, rfl⟩
  case rest =>
    obtain ⟨j, rfl, hj, hA, hB, rfl⟩ := hcut
    have hins := hid (insE_at (e := ⟨k, U, s⟩) hA hB)
    have hcA := hid (RowAt.cutTo hT.out hj)
    have htl := hid (TAt.tail hT.out hj)
    have hS := hid (Two.start (α := Ent) (β := Ent) encT encT 53 53 2 2 (Below.refl w1.heap.size w1) (Nat.le_refl _))
    have hla := hid (show (R.take j).length ≤ j by simp; omega)
    have hld := hid (show (R.drop j).length ≤ R.length by simp)
    clear hA hB
    have hfin := hid (fun (v' : Value) (w4 : World) (h4 : Two encT encT w1.heap.size w1 w4 53 53 2 2 v' (.slice none 0 0) ((([] ++ R.take j) ++ [(⟨k, U, s⟩ : Ent)]) ++ R.drop j) ([] : List Ent)) => show RSetPost w (setE l k U s) (hasE l k) (.returned (.tuple #[v', .bool (hasE l k)])) w4 from ⟨v', rfl, by
      rw [hRd.out, hins.out]
      have e1 : ((([] ++ R.take j) ++ [(⟨k, U, s⟩ : Ent)]) ++ R.drop j) = R.take j ++ ⟨k, U, s⟩ :: R.drop j := by simp
      have h5 := h4.a
      rw [e1] at h5
      exact (RowAt.of_own encT_len h5 rfl).mono (fun b hb4 _ => Nat.le_trans hb.out.size hb4), Below.next hb.out h4.below hb.out.size⟩)
    have hlj := hid (show ([] ++ R.take j).length = j by simp; omega)
    have hl4 := hid (show ((([] ++ R.take j) ++ [(⟨k, U, s⟩ : Ent)]) ++ R.drop j).length = R.length + 1 by simp; omega)
    cases ra with
    | none =>
      have hc0 : rc = 0 := by obtain ⟨_, _, e, ⟨_, _, h3⟩, _⟩ := hT.out; simp only [Value.slice.injEq] at e; rw [e.2.2]; exact h3 e.1.symm
      have hR0 : R = [] := List.eq_nil_of_length_eq_zero (by omega)
      subst hR0
      obtain rfl : j = 0 := by simpa using hj
      subst hc0
      unfold tailV at htl
      simp only [List.length_nil] at hcA htl ⊢
      go_upto_region 8 with (at_builtin; (refine Two.wpSl elT encT_len encT_one hS.out rfl (.tmp 37) (.tmp 40) rfl rfl (xv := .slice none 0 0) rfl hcA.out (by simp) (by omega) ?_; intro v2 w2 hT2 hz2; obtain ⟨⟨a2, c2, rfl⟩, -⟩ := hT2.shapes; rw [hlj.out] at hT2 ⊢; replace hT2 := hid hT2))
      go_upto_region 9 with (at_builtin; (refine Two.wpA elT (hT2.out.alloc _) rfl (.tmp 42) (.tmp 46) rfl rfl (y := ⟨k, U, s⟩) rfl (heap_at _ _ _ (by simp)) rfl (encT_one _) (by simp) (by omega) ?_; intro g' cap' w3 hT3 hz3; rw [hlj.out] at hT3 ⊢; replace hT3 := hid hT3))
      go_wp2_with (first | (at_builtin; (refine Two.wpSl elT encT_len encT_one hT3.out rfl (.tmp 48) (.tmp 51) rfl rfl (xv := .slice none 0 0) rfl (htl.out.below hT3.out.below) (by have := hla.out; have := hld.out; simp only [List.length_append, List.length_nil, List.length_singleton]; omega) (by omega) ?_; intro v4 w4 hT4 hz4; have hf := hid (hfin.out _ _ hT4); obtain ⟨⟨a4, c4, rfl⟩, -⟩ := hT4.shapes; rw [hl4.out] at hf ⊢; clear hT4)))
      go_ret2
      exact hf.out
    | some a =>
      unfold tailV at htl
      simp only at htl
      go_upto_region 8 with (at_builtin; (refine Two.wpSl elT encT_len encT_one hS.out rfl (.tmp 37) (.tmp 40) rfl rfl (xv := .slice (some a) j rc) rfl hcA.out (by have := hla.out; simp only [List.length_nil]; omega) (by omega) ?_; intro v2 w2 hT2 hz2; obtain ⟨⟨a2, c2, rfl⟩, -⟩ := hT2.shapes; rw [hlj.out] at hT2 ⊢; replace hT2 := hid hT2))
      go_upto_region 9 with (at_builtin; (refine Two.wpA elT (hT2.out.alloc _) rfl (.tmp 42) (.tmp 46) rfl rfl (y := ⟨k, U, s⟩) rfl (heap_at _ _ _ (by simp)) rfl (encT_one _) (by have := hla.out; simp only [List.nil_append]; omega) (by omega) ?_; intro g' cap' w3 hT3 hz3; rw [hlj.out] at hT3 ⊢; replace hT3 := hid hT3))
      by_cases hcj : rc - j = 0
      · rw [if_pos hcj, hcj] at htl
        go_wp2_with (first | (at_builtin; (refine Two.wpSl elT encT_len encT_one hT3.out rfl (.tmp 48) (.tmp 51) rfl rfl (xv := .slice (some a) (R.length - j) 0) rfl (htl.out.below hT3.out.below) (by have := hla.out; have := hld.out; simp only [List.length_append, List.length_nil, List.length_singleton]; omega) (by omega) ?_; intro v4 w4 hT4 hz4; have hf := hid (hfin.out _ _ hT4); obtain ⟨⟨a4, c4, rfl⟩, -⟩ := hT4.shapes; rw [hl4.out] at hf ⊢; clear hT4)))
        go_ret2
        exact hf.out
      · rw [if_neg hcj] at htl
        go_wp2_with (first | (at_builtin; (refine Two.wpSl elT encT_len encT_one hT3.out rfl (.tmp 48) (.tmp 51) rfl rfl (xv := .slice (some (a.add (j * 2))) (R.length - j) (rc - j)) rfl (htl.out.below hT3.out.below) (by have := hla.out; have := hld.out; simp only [List.length_append, List.length_nil, List.length_singleton]; omega) (by omega) ?_; intro v4 w4 hT4 hz4; have hf := hid (hfin.out _ _ hT4); obtain ⟨⟨a4, c4, rfl⟩, -⟩ := hT4.shapes; rw [hl4.out] at hf ⊢; clear hT4)))
        go_ret2
        exact hf.out
end
end Go.Proofs.Ytallemgagloagaa.Rw
