/- DERIVED. Wheels as rows of keys: New, Set, Cancel, Until, Len, Keys, First, Due. No statement is proved here. -/
import Derived.Test.YtnlmkllhmldgiaaWheelKs
import Derived.Test.YtnlmkllhmldgiaaWheelP
import Derived.Test.YtnlmkllhmldgiaaK3
namespace Go.Proofs.Ytnlmkllhmldgiaa.Wh
set_option linter.unusedVariables false
set_option linter.unusedSimpArgs false
open Go.RowKit Go.Maps Go.Proofs.Ytnlmkllhmldgiaa.K Go.Proofs.Ytnlmkllhmldgiaa.Lb
theorem elInt : ElemOk Try.prog 22 3 1 8 := .mk' (z := .int .i64 0) Try.underlying22 (by kernel_rfl) rfl (by decide)
theorem WheelAt.keysInt {w : World} {wb mb n : Nat} {D : DataW Unit} {s : Int} (h : WheelAt w wb mb n D s) : ∀ es, D = .map es → ∀ p ∈ es, ∃ x, p.1 = .int .i64 x := by
  obtain ⟨es', hD', hko⟩ := h.map.keysOf
  rintro es rfl p hp
  obtain rfl : es = es' := by simpa using hD'
  obtain ⟨v, hv⟩ := hko p hp
  obtain ⟨x, _, hx, _⟩ := Maps.keyOf_i64 Try.underlying3 hv
  exact ⟨x, hx⟩
theorem WRel.size {D : DataW Unit} {s : Int} {l : List Ent} (h : WRel D s l) (hk : ∀ es, D = .map es → ∀ p ∈ es, ∃ x, p.1 = .int .i64 x) : Maps.size D = l.length := by
  have h1 := (intKeys_mem h hk).length_eq
  obtain ⟨es, rfl, -⟩ := h.tidy
  unfold keysE at h1
  rw [List.length_map] at h1
  rw [h1]; show es.length = (es.map _).length; simp
/-- A wheel, by its row: its blocks are among M. -/
def WhM (w : World) (M : Nat → Prop) (wb : Nat) (l : List Ent) (s : Int) : Prop :=
  ∃ mb n D, WheelAt w wb mb n D s ∧ WRel D s l ∧ (n : Int) = s ∧ (∀ b, WM wb mb b → M b) ∧ ∀ b, M b → b < w.heap.size
section
variable {w w' : World} {M : Nat → Prop} {wb : Nat} {l : List Ent} {s : Int}
theorem WhM.lt (h : WhM w M wb l s) : ∀ b, M b → b < w.heap.size := let ⟨_, _, _, _, _, _, _, h⟩ := h; h
theorem WhM.s0 (h : WhM w M wb l s) : 0 ≤ s := by obtain ⟨_, n, _, _, _, h, _⟩ := h; omega
theorem WhM.rel (h : WhM w M wb l s) : ∃ D, WRel D s l := let ⟨_, _, D, _, h, _⟩ := h; ⟨D, h⟩
theorem WhM.kept (h : WhM w M wb l s) (hs : w.heap.size ≤ w'.heap.size) (hk : ∀ b, M b → b < w.heap.size → w'.heap[b]? = w.heap[b]?) : WhM w' M wb l s := by
  obtain ⟨mb, n, D, h1, h2, h3, h4, h5⟩ := h
  exact ⟨mb, n, D, h1.kept (hk _ (h4 _ (.inl rfl)) h1.lt.1) (hk _ (h4 _ (.inr rfl)) h1.lt.2), h2, h3, h4, fun b hb => Nat.lt_of_lt_of_le (h5 b hb) hs⟩
theorem WhM.below (h : WhM w M wb l s) (hb : Below w.heap.size w w') : WhM w' M wb l s := h.kept hb.size (fun b _ hlt => hb.block b hlt)
theorem WhM.chg {M' : Nat → Prop} (h : WhM w M wb l s) (hc : Chg M' w w') (hM : ∀ b, M b → ¬ M' b) : WhM w' M wb l s := h.kept hc.size (fun b hb hlt => hc.block b hlt (hM b hb))
theorem cutT_in' (u : Int) : 0 ≤ cutT u ∧ cutT u ≤ 4611686018427387904 := by unfold cutT; omega
theorem grow_lt (h : ∀ b, M b → b < w.heap.size) (hs : w.heap.size ≤ w'.heap.size) : ∀ b, grow M w w' b → b < w'.heap.size := fun b hb => by rcases hb with hb | hb; exact Nat.lt_of_lt_of_le (h b hb) hs; exact hb.2
theorem new_l (w : World) : Calls Try.prog 32 #[] w fun e w' => ∃ wb, e = .returned (.pointer (some ⟨wb, 0, none⟩)) ∧ WhM w' (fun b => w.heap.size ≤ b ∧ b < w'.heap.size) wb [] 0 ∧ Below w.heap.size w w' :=
  (new_c w).mono fun e w' ⟨wb, mb, he, hW, h1, h2, hb⟩ => ⟨wb, he, ⟨mb, 0, .map [], hW, WRel.start, rfl, fun b hb => by { rcases hb with rfl | rfl; exact ⟨h1, hW.lt.1⟩; exact ⟨h2, hW.lt.2⟩ }, fun b hb => hb.2⟩, hb⟩
def StepW (w : World) (M : Nat → Prop) (wb : Nat) (l' : List Ent) (s' : Int) (v : Value) (e : Ending) (w' : World) : Prop := e = .returned v ∧ WhM w' (grow M w w') wb l' s' ∧ Chg M w w'
theorem set_l (h : WhM w M wb l s) (hs : s < 1000000) {k : Int} (hk : isInt k) (u : Int) : Calls Try.prog 35 #[.pointer (some ⟨wb, 0, none⟩), .int .i64 k, .int .i64 u] w (StepW w M wb (setE l k (cutT u) (s + 1)) (s + 1) (.bool (hasE l k))) := by
  have hlt := h.lt
  obtain ⟨mb, n, D, h1, h2, h3, h4, h5⟩ := h
  have e1 : wrap64 (s + 1) = s + 1 := by unfold wrap64; omega
  refine (set_c h1 (by omega) hk u).mono fun e w' hp => ?_
  unfold SetPost at hp
  rw [e1, h2.mem] at hp
  obtain ⟨he, hW, hC⟩ := hp
  exact ⟨he, ⟨mb, n + 1, _, hW, h2.put hk (cutT_in' u) (by omega), by omega, fun b hb => .inl (h4 b hb), grow_lt hlt hC.size⟩, hC.mono h4⟩
theorem cancel_l (h : WhM w M wb l s) {k : Int} (hk : isInt k) : Calls Try.prog 44 #[.pointer (some ⟨wb, 0, none⟩), .int .i64 k] w (StepW w M wb (rmE k l) s (.bool (hasE l k))) := by
  have hlt := h.lt
  obtain ⟨mb, n, D, h1, h2, h3, h4, h5⟩ := h
  refine (cancel_c h1 hk).mono fun e w' ⟨he, hW, hC⟩ => ?_
  rw [h2.mem] at he
  exact ⟨he, ⟨mb, n, _, hW, h2.del k, h3, fun b hb => .inl (h4 b hb), grow_lt hlt hC.size⟩, hC.mono h4⟩
theorem until_l (h : WhM w M wb l s) {k : Int} (hk : isInt k) : Calls Try.prog 48 #[.pointer (some ⟨wb, 0, none⟩), .int .i64 k] w fun e w' => e = .returned (.tuple #[.int .i64 (untilE l k), .bool (hasE l k)]) ∧ Below w.heap.size w w' := by
  obtain ⟨mb, n, D, h1, h2, h3, h4, h5⟩ := h
  refine (until_c h1 hk).mono fun e w' ⟨he, hb⟩ => ?_
  rw [h2.mem, h2.until_eq] at he
  exact ⟨he, hb⟩
def KeysL (w : World) (ks : List Int) (e : Ending) (w' : World) : Prop := ∃ v, e = .returned v ∧ IntsAt (fun b => w.heap.size ≤ b) w' v ks ∧ Below w.heap.size w w'
theorem keys_l (h : WhM w M wb l s) (hs : s ≤ 1000000) : Calls Try.prog 47 #[.pointer (some ⟨wb, 0, none⟩)] w (KeysL w (keysE l)) := by
  obtain ⟨mb, n, D, h1, h2, h3, h4, h5⟩ := h
  refine (keysW_c h1 (by omega)).mono fun e w' ⟨v, ss, he, hp, hs', hi, hb⟩ => ?_
  rw [h2.keys_row h1.keysInt hp hs'] at hi
  exact ⟨v, he, hi, hb⟩
theorem due_nil (w : World) (now : Int) : Calls Try.prog 39 #[.pointer none, .int .i64 now] w fun e w' => e = .returned (.slice none 0 0) ∧ Below w.heap.size w w' := by
  go_enter Try.func39, Try.ntmps39
  go_wp2_with (first | (go_at_call 47; (with_reducible refine (keys_nil _).mono ?_); rintro e w' ⟨rfl, hb⟩; replace hb := hid hb))
  go_loopg [13, 5, 7, 8, 9] 0 (fun g i s5 s7 s8 s9 wr => g = 0 ∧ i = .int .i64 0 ∧ s5 = .slice none 0 0 ∧ wr = w')
  case atStart => exact ⟨rfl, rfl, rfl, rfl⟩
  case round =>
    obtain ⟨hg, rfl, rfl, rfl⟩ := hrel
    go_wp2
    go_ret
    exact ⟨rfl, hb.out⟩
def hdK (l : List Ent) : Int := match l with | e :: _ => e.k | [] => 0
def hdU (l : List Ent) : Int := match l with | e :: _ => e.u | [] => 0
def lateE (now : Int) (e : Ent) : Bool := lateT now e.u
theorem rm_next {l : List Ent} (hn : (keysE l).Nodup) {now : Int} {j : Nat} (hj : j < l.length) (hl : lateE now l[j] = true) :
    rmE l[j].k ((l.take j).filter (fun e => !lateE now e) ++ l.drop j) = (l.take (j + 1)).filter (fun e => !lateE now e) ++ l.drop (j + 1) := by
  have hne : ∀ (a b : Nat) (ha : a < l.length) (hb : b < l.length), a ≠ b → l[a].k ≠ l[b].k := by
    intro a b ha hb hab e
    have h1 := List.pairwise_iff_getElem.1 hn
    rcases Nat.lt_or_gt_of_ne hab with h2 | h2
    · exact h1 a b (by simpa [keysE] using ha) (by simpa [keysE] using hb) h2 (by simpa [keysE] using e)
    · exact h1 b a (by simpa [keysE] using hb) (by simpa [keysE] using ha) h2 (by simpa [keysE] using e.symm)
  rw [List.drop_eq_getElem_cons hj, List.take_succ_eq_append_getElem hj, List.filter_append]
  unfold rmE
  rw [List.filter_append, List.filter_cons]
  have e1 : (l.take j).filter (fun e => !lateE now e) = ((l.take j).filter (fun e => !lateE now e)).filter (fun e => !(e.k == l[j].k)) := by
    symm
    rw [List.filter_eq_self]
    intro e he
    obtain ⟨a, ha, rfl⟩ := List.mem_iff_getElem.1 (List.mem_filter.1 he).1
    have ha' : a < j := by simp at ha; omega
    have := hne a j (by omega) hj (by omega)
    simpa using this
  have e2 : (l.drop (j + 1)).filter (fun e => !(e.k == l[j].k)) = l.drop (j + 1) := by
    rw [List.filter_eq_self]
    intro e he
    obtain ⟨a, ha, rfl⟩ := List.mem_iff_getElem.1 he
    have ha' : j + 1 + a < l.length := by simp at ha; omega
    have := hne (j + 1 + a) j ha' hj (by omega)
    simpa using this
  rw [e2]
  have e3 : [l[j]].filter (fun e => !lateE now e) = [] := by simp [hl]
  rw [← e1, e3]
  simp
theorem ownsRow_kept {base : Nat} {T : TypeId} {k n : Nat} {v : Value} {xs : List Value} (h : w.ownsRow base T k v n xs) (hk : ∀ b, base ≤ b → b < w.heap.size → w'.heap[b]? = w.heap[b]?) : w'.ownsRow base T k v n xs := by
  refine ⟨h.1, ?_⟩
  rcases h.2 with h2 | ⟨g, cap, cur, e, hb, hh, hx⟩
  · exact .inl h2
  · exact .inr ⟨g, cap, cur, e, hb, (hk g hb (Array.getElem?_eq_some_iff.1 hh).1).trans hh, hx⟩
theorem chg_own {base : Nat} {T : TypeId} {k n : Nat} {v : Value} {xs : List Value} (h : w.ownsRow base T k v n xs) (hg : w.grownBy w' v.ownBlock) : Chg (fun b => base ≤ b) w w' :=
  ⟨hg.os, hg.tape, hg.output, hg.size, fun b hb hn => hg.block b hb (fun e => hn (own_block_ge h b e.symm))⟩
def DuePost (w : World) (M : Nat → Prop) (wb : Nat) (now : Int) (l : List Ent) (s : Int) (e : Ending) (w' : World) : Prop :=
  ∃ v, e = .returned v ∧ IntsAt (fun b => w.heap.size ≤ b) w' v (keysE (l.filter (lateE now))) ∧ WhM w' M wb (l.filter (fun e => !lateE now e)) s ∧ Chg M w w'
set_option maxHeartbeats 1000000 in
theorem due_l (h : WhM w M wb l s) (hs : s ≤ 1000000) (hl6 : l.length ≤ 1000000) (now : Int) : Calls Try.prog 39 #[.pointer (some ⟨wb, 0, none⟩), .int .i64 now] w (DuePost w M wb now l s) := by
  have hk := hid (keys_l h hs)
  have hlt := h.lt
  obtain ⟨mb, n, D, h1, h2, h3, h4, h5⟩ := h
  have hM : ∀ b, M b → b < w.heap.size := h5
  replace h4 := hid h4
  replace h5 := hid h5
  replace hM := hid hM
  clear hlt
  have hW0 := hid h1
  have hR0 := hid h2
  clear h1 h2
  go_enter Try.func39, Try.ntmps39
  go_upto_block 0 with (first | (go_at_call 47; (with_reducible refine (hk.out).mono ?_); rintro e w1 ⟨v, rfl, hi, hb⟩; obtain ⟨ka, kc, rfl⟩ := hi.shape; have hW1 := hid (hW0.out.below hb); replace hi := hid (hi.mono (ok' := fun b => w.heap.size ≤ b ∧ b < w1.heap.size) (fun b h hlt => ⟨h, hlt⟩)); replace hb := hid hb))
  have hkl : (keysE l).length = l.length := by unfold keysE; rw [List.length_map]
  rw [hkl]
  have hcapl := hi.out.get.2.1
  have hcapm := hi.out.get.2.2.1
  go_wp2
  go_loopg [13, 5, 7, 8, 9] l.length (fun g i v5 s7 s8 s9 wr => ∃ (j : Nat) (D : DataW Unit), j ≤ l.length ∧ g = l.length - j ∧ i = .int .i64 j ∧ WheelAt wr wb mb n D s ∧ WRel D s ((l.take j).filter (fun e => !lateE now e) ++ l.drop j) ∧ wr.ownsRow w1.heap.size 3 1 v5 ((l.take j).filter (lateE now)).length ((keysE ((l.take j).filter (lateE now))).map (Value.int .i64)) ∧ Chg (WM wb mb) w1 wr)
  case atStart => exact ⟨0, D, by omega, rfl, rfl, hW1.out, by simpa using hR0.out, by simpa [keysE] using World.ownsRow_nil w1 w1.heap.size 3 1, Chg.refl _ _⟩
  case round =>
    obtain ⟨j, Dj, hj, hgj, rfl, hW, hR, hown, hC⟩ := hrel
    by_cases hjl : j < l.length
    · have dj : decide ((j : Int) < l.length) = true := decide_eq_true (by omega)
      have hmem : l[j] ∈ (l.take j).filter (fun e => !lateE now e) ++ l.drop j := by
        rw [List.mem_append]; right; rw [List.drop_eq_getElem_cons hjl]; exact List.mem_cons_self
      have hki := hid (hR.bd _ hmem).1
      have hun := until_c hW hki.out
      rw [hR.until_eq, untilE_mem hR.nd hmem, hR.mem, hasE_mem hmem] at hun
      replace hun := hid hun
      have hiw := hi.out.chg hC (fun b hb _ hm => by have := h4.out b hm; have := hM.out b this; omega)
      obtain ⟨-, -, -, hg⟩ := hiw.get
      obtain ⟨kg, ko, rfl, -, hgl, ck⟩ := hg j (by rw [hkl]; exact hjl)
      simp only [keysE, List.getElem_map] at ck
      replace hiw := hid hiw
      have hlen : ((l.take j).filter (lateE now)).length ≤ j := Nat.le_trans (List.length_filter_le _ _) (by simp; omega)
      have hwz := hC.size
      cases hle : lateE now l[j] with
      | true =>
        have hnx := rm_next hR0.out.nd hjl hle
        have hlt' : lateT now l[j].u = true := hle
        have hfo : (l.take (j + 1)).filter (lateE now) = (l.take j).filter (lateE now) ++ [l[j]] := by
          rw [List.take_succ_eq_append_getElem hjl, List.filter_append]; congr 1; simp [hle]
        replace hnx := hid hnx
        replace hfo := hid hfo
        replace hle := hid hle
        replace hW := hid hW
        replace hR := hid hR
        replace hC := hid hC
        replace hown := hid hown
        clear hg hmem
        have hwl := hid (show wb < w1.heap.size ∧ mb < w1.heap.size from hW1.out.lt)
        go_wp2_with (first | (go_at_call 48; (with_reducible refine (hun.out).mono ?_); rintro e w2 ⟨rfl, hb2⟩; have hW2 := hid (hW.out.below hb2); have hC2 := hid (hC.out.below hb2); have hown2 := hid (ownsRow_kept hown.out (fun b _ hlt => hb2.block b hlt)); have ck2 := (hb2.cell (p := ⟨kg, ko + j, none⟩) hgl).trans ck; have hgl2 := Nat.lt_of_lt_of_le hgl hb2.size; clear hb2) | (go_at_call 34; (with_reducible refine (late_c _ _ _).mono ?_); rw [hlt']; rintro e w' ⟨rfl, rfl⟩) | (go_at_call 44; (with_reducible refine (cancel_c hW2.out hki.out).mono ?_); rintro e w3 ⟨rfl, hWc, hCc⟩; have hW3 := hid hWc; have hC3 := hid (hC2.out.trans hCc (fun i hi => .inl hi)); have hown3 := hid (ownsRow_kept hown2.out (fun b h1 hlt => hCc.block b hlt (fun hm => by have := hwl.out; rcases hm with hm | hm <;> omega))); have hs3 := hC3.out.size; clear hWc hCc) | (at_builtin; refine wpList_push rfl (.tmp 29) (.tmp 31) 22 rfl elInt (W0 := w3) (B := 0) rfl (hown3.out.alloc _) ((Below.refl 0 w3).alloc (Nat.zero_le _) _) (Nat.zero_le _) (by simp; omega) (news := [.int .i64 l[j].k]) rfl rfl (heap_at _ _ _ (by simp)) (by simp [Value.oneCell']) (by unfold maxLen; omega) (by omega) ?_; intro v' w5 hown5 _ hgr5 _; have hC4 := chg_own (hown3.out.alloc _) hgr5; have hW5 := hid ((hW3.out.below ((Below.refl _ _).alloc (Nat.le_refl _) _)).chg hC4 (by have := hwl.out; omega) (by have := hwl.out; omega)); have hC5 := hid ((hC3.out.alloc _).trans hC4 (fun i hi => .inr hi)); replace hown5 := hid hown5; clear hC4 hgr5))
        go_roundg (l.length - (j + 1))
        case rel => exact ⟨j + 1, _, by omega, rfl, by go_num, hW5.out, by rw [← hnx.out]; exact hR.out.del _, by rw [hfo.out]; simpa [keysE] using hown5.out, hC5.out⟩
        case measure => omega
      | false =>
        have hnx : (l.take (j + 1)).filter (fun e => !lateE now e) ++ l.drop (j + 1) = (l.take j).filter (fun e => !lateE now e) ++ l.drop j := by
          rw [List.drop_eq_getElem_cons hjl, List.take_succ_eq_append_getElem hjl, List.filter_append]; simp [hle]
        have hlt' : lateT now l[j].u = false := hle
        have hfo : (l.take (j + 1)).filter (lateE now) = (l.take j).filter (lateE now) := by
          rw [List.take_succ_eq_append_getElem hjl, List.filter_append]; simp [hle]
        replace hnx := hid hnx
        replace hfo := hid hfo
        replace hle := hid hle
        replace hW := hid hW
        replace hR := hid hR
        replace hC := hid hC
        replace hown := hid hown
        clear hg hmem
        go_wp2_with (first | (go_at_call 48; (with_reducible refine (hun.out).mono ?_); rintro e w2 ⟨rfl, hb2⟩; have hW2 := hid (hW.out.below hb2); have hC2 := hid (hC.out.below hb2); have hown2 := hid (ownsRow_kept hown.out (fun b _ hlt => hb2.block b hlt)); clear hb2) | (go_at_call 34; (with_reducible refine (late_c _ _ _).mono ?_); rw [hlt']; rintro e w' ⟨rfl, rfl⟩))
        go_roundg (l.length - (j + 1))
        case rel => exact ⟨j + 1, _, by omega, rfl, by go_num, hW2.out, by rw [hnx.out]; exact hR.out, by rw [hfo.out]; exact hown2.out, hC2.out⟩
        case measure => omega
    · obtain rfl : j = l.length := by omega
      have dj : decide ((l.length : Int) < l.length) = false := decide_eq_false (by omega)
      simp only [List.take_length, List.drop_length, List.append_nil] at hR hown
      have hfin := hid (show DuePost w M wb now l s (.returned u5) wr from ⟨u5, rfl, (IntsAt.of_own hown).mono (fun b h _ => Nat.le_trans hb.out.size h), ⟨mb, n, _, hW, hR, h3, h4.out, fun b hm => Nat.lt_of_lt_of_le (Nat.lt_of_lt_of_le (hM.out b hm) hb.out.size) hC.size⟩, (Chg.of_below hb.out).trans hC (fun i hi => .inl (h4.out i hi))⟩)
      obtain ⟨oa, oc, rfl⟩ := (IntsAt.of_own hown).shape
      clear hown hR hW hC
      go_wp2
      go_ret
      exact hfin.out
end
end Go.Proofs.Ytnlmkllhmldgiaa.Wh
