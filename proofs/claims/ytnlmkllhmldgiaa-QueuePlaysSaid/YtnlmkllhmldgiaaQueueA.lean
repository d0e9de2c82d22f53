/- DERIVED. The walks over slices.IndexFunc and slices.DeleteFunc at the port's closure (those that are a process), and slices.Contains. -/
import Derived.Test.YtnlmkllhmldgiaaK2
import Derived.Test.YtnlmkllhmldgiaaLibA
import Derived.Deep.LoopGhost
import Derived.Deep.DeepCutAuto
import Derived.Deep.CutBlock
namespace Go.Proofs.Ytnlmkllhmldgiaa.Qu
set_option linter.unusedVariables false
set_option linter.unusedSimpArgs false
open Go.RowKit Go.Proofs.Ytnlmkllhmldgiaa.K Go.Proofs.Ytnlmkllhmldgiaa.Lb

theorem away1_c {w : World} {b : Nat} {q : Int} (hc : w.cell? ⟨b, 0, none⟩ = some (.int .i64 q)) (x : Int) : Calls Try.prog 46 #[.int .i64 x, .pointer (some ⟨b, 0, none⟩)] w fun e w' => e = .returned (.bool (x == q)) ∧ w = w' := by
  go_enter Try.func46, Try.ntmps46
  go_wp2
  go_ret
  exact ⟨rfl, rfl⟩
/-- The first place of q, or -1. -/
def idxT : List Int → Int → Int
  | [], _ => -1
  | y :: r, q => if y = q then 0 else if idxT r q < 0 then -1 else idxT r q + 1
theorem idxT_none {xs : List Int} {q : Int} (h : q ∉ xs) : idxT xs q = -1 := by
  induction xs with
  | nil => rfl
  | cons y r ih =>
    simp only [List.mem_cons, not_or] at h
    unfold idxT
    rw [if_neg (Ne.symm h.1), ih h.2]; rfl
theorem idxT_found {xs : List Int} {q : Int} {k : Nat} (hk : k < xs.length) (h : q ∉ xs.take k) (he : xs[k] = q) : idxT xs q = k := by
  induction xs generalizing k with
  | nil => simp at hk
  | cons y r ih =>
    cases k with
    | zero => simp only [List.getElem_cons_zero] at he; unfold idxT; rw [if_pos he]; rfl
    | succ k =>
      simp only [List.take_succ_cons, List.mem_cons, not_or] at h
      simp only [List.getElem_cons_succ] at he
      have h1 := ih (k := k) (by simpa using hk) h.2 he
      unfold idxT
      rw [if_neg (Ne.symm h.1), h1, if_neg (by omega)]; omega
theorem not_take_succ {xs : List Int} {q : Int} {k : Nat} (hk : k < xs.length) (h : q ∉ xs.take k) (he : xs[k] ≠ q) : q ∉ xs.take (k + 1) := by
  rw [List.take_succ_eq_append_getElem hk]
  simp only [List.mem_append, List.mem_singleton, not_or]
  exact ⟨h, Ne.symm he⟩
theorem indexFunc_c {ok : Nat → Prop} {w : World} {v : Value} {xs : List Int} (h : IntsAt ok w v xs) {b : Nat} {q : Int} (hc : w.cell? ⟨b, 0, none⟩ = some (.int .i64 q)) :
    Calls Try.prog 50 #[v, .func (.func 46) #[] #[.pointer (some ⟨b, 0, none⟩)]] w fun e w' => e = .returned (.int .i64 (idxT xs q)) ∧ w = w' := by
  obtain ⟨ao, cap, rfl⟩ := h.shape
  obtain ⟨-, hl, hm, hget⟩ := h.get
  have hget := hid hget
  go_enter Try.func50, Try.ntmps50
  go_wp2
  go_loopg [8] xs.length (fun g i wr => w = wr ∧ ∃ k : Nat, k ≤ xs.length ∧ g = xs.length - k ∧ i = .int .i64 k ∧ q ∉ xs.take k)
  case atStart => exact ⟨rfl, 0, Nat.zero_le _, rfl, rfl, by simp⟩
  case round =>
    obtain ⟨rfl, k, hk, hgk, rfl, hnot⟩ := hrel
    by_cases hlt : k < xs.length
    · obtain ⟨g, o, rfl, -, hg, ck⟩ := hget.out k hlt
      by_cases he : xs[k] = q
      · have hi := hid (idxT_found hlt hnot he)
        rw [he] at ck
        clear he
        go_wp2_with (first | (go_at_call 46; (with_reducible refine (away1_c hc q).mono ?_); rintro e w' ⟨rfl, rfl⟩))
        go_ret
        exact ⟨by rw [hi.out]; rfl, rfl⟩
      · have hn := hid (not_take_succ hlt hnot he)
        have hq : (xs[k] == q) = false := by simpa using he
        replace he := hid he
        go_wp2_with (first | (go_at_call 46; (with_reducible refine (away1_c hc xs[k]).mono ?_); rw [hq]; rintro e w' ⟨rfl, rfl⟩))
        go_roundg (xs.length - (k + 1))
        case rel => exact ⟨rfl, k + 1, by omega, rfl, by go_num, hn.out⟩
        case measure => omega
    · obtain rfl : k = xs.length := by omega
      rw [List.take_length] at hnot
      have hi := hid (idxT_none hnot)
      go_wp2
      go_ret
      exact ⟨by rw [hi.out]; rfl, rfl⟩

/-- All but q. -/
def butT (xs : List Int) (q : Int) : List Int := xs.filter (fun x => x != q)
theorem butT_not {xs : List Int} {q : Int} (h : q ∉ xs) : butT xs q = xs := by
  unfold butT
  rw [List.filter_eq_self]
  intro x hx
  simp only [bne_iff_ne]
  intro e; subst e; exact h hx
theorem butT_take_eq {xs : List Int} {q : Int} {j : Nat} (hj : j < xs.length) (he : xs[j] = q) : butT (xs.take (j + 1)) q = butT (xs.take j) q := by
  rw [List.take_succ_eq_append_getElem hj]; unfold butT; rw [List.filter_append]; simp [he]
theorem butT_take_ne {xs : List Int} {q : Int} {j : Nat} (hj : j < xs.length) (he : xs[j] ≠ q) : butT (xs.take (j + 1)) q = butT (xs.take j) q ++ [xs[j]] := by
  rw [List.take_succ_eq_append_getElem hj]; unfold butT; rw [List.filter_append]; simp [he]
/-- Half way: the first i are those of the first j that stay; from j on nothing has moved. -/
structure Half (xs ys : List Int) (q : Int) (i j : Nat) : Prop where
  len : ys.length = xs.length
  lo : ys.take i = butT (xs.take j) q
  hi : ys.drop j = xs.drop j
  lt : i < j
  le : j ≤ xs.length
theorem Half.start {xs : List Int} {q : Int} {k : Nat} (hk : k < xs.length) (h : q ∉ xs.take k) (he : xs[k] = q) : Half xs xs q k (k + 1) :=
  ⟨rfl, by rw [butT_take_eq hk he, butT_not h], rfl, by omega, by omega⟩
theorem Half.at_ {xs ys : List Int} {q : Int} {i j : Nat} (h : Half xs ys q i j) (hj : j < xs.length) (hj' : j < ys.length) : ys[j] = xs[j] := by
  have h1 := congrArg (fun l => l[0]?) h.hi
  simp only [List.getElem?_drop, Nat.add_zero] at h1
  rw [List.getElem?_eq_getElem hj', List.getElem?_eq_getElem hj] at h1
  exact Option.some.inj h1
theorem Half.skip {xs ys : List Int} {q : Int} {i j : Nat} (h : Half xs ys q i j) (hj : j < xs.length) (he : xs[j] = q) : Half xs ys q i (j + 1) :=
  ⟨h.len, by rw [butT_take_eq hj he]; exact h.lo, by rw [← List.drop_drop, ← List.drop_drop, h.hi], by have := h.lt; omega, by omega⟩
theorem Half.keep {xs ys : List Int} {q : Int} {i j : Nat} (h : Half xs ys q i j) (hj : j < xs.length) (he : xs[j] ≠ q) : Half xs (ys.set i xs[j]) q (i + 1) (j + 1) := by
  have hl := h.len
  have hlt := h.lt
  refine ⟨by simpa using hl, ?_, ?_, by omega, by omega⟩
  · rw [butT_take_ne hj he, ← h.lo, List.take_succ_eq_append_getElem (by simp; omega), List.take_set, List.set_eq_of_length_le (by simp; omega)]
    simp
  · rw [List.drop_set_of_lt (by omega), ← List.drop_drop, ← List.drop_drop, h.hi]
theorem idxT_split (xs : List Int) (q : Int) : (q ∉ xs ∧ idxT xs q = -1) ∨ ∃ k : Nat, ∃ hk : k < xs.length, q ∉ xs.take k ∧ xs[k] = q ∧ idxT xs q = k := by
  by_cases h : q ∈ xs
  · right
    have key : ∀ (n : Nat) (xs : List Int), xs.length = n → q ∈ xs → ∃ k : Nat, ∃ hk : k < xs.length, q ∉ xs.take k ∧ xs[k] = q := by
      intro n
      induction n with
      | zero => intro xs hl hq; have : xs = [] := List.eq_nil_of_length_eq_zero hl; subst this; cases hq
      | succ n ih =>
        intro xs hl hq
        cases xs with
        | nil => cases hq
        | cons y r =>
          by_cases hy : y = q
          · exact ⟨0, by simp, by simp, by simpa using hy⟩
          · obtain ⟨k, hk, h1, h2⟩ := ih r (by simpa using hl) (by rcases List.mem_cons.1 hq with h | h; exact absurd h.symm hy; exact h)
            exact ⟨k + 1, by simpa using hk, by simp only [List.take_succ_cons, List.mem_cons, not_or]; exact ⟨Ne.symm hy, h1⟩, by simpa using h2⟩
    obtain ⟨k, hk, h1, h2⟩ := key _ xs rfl h
    exact ⟨k, hk, h1, h2, idxT_found hk h1 h2⟩
  · exact .inl ⟨h, idxT_none h⟩
theorem zeroI (w : World) : (zeroValue 3).run Try.prog w = .ok (.int .i64 0) w := by kernel_rfl
theorem zeros_list (n : Nat) : (Builtin.zeroCells (Value.int .i64 0).cells n).toList = List.replicate n (.int .i64 0) := by
  simp [Builtin.zeroCells, Value.cells, Nat.mod_one, List.map_const']
def Row (g : Nat) : Nat → Prop := fun c => c = g
def DelPost (w : World) (base : Nat) (v : Value) (xs : List Int) (q : Int) (e : Ending) (w' : World) : Prop :=
  ∃ v', e = .returned v' ∧ w'.ownsRow base 3 1 v' (butT xs q).length ((butT xs q).map (Value.int .i64)) ∧ Chg (fun c => v.ownBlock = some c) w w' ∧ (∀ c, v'.ownBlock = some c → v.ownBlock = some c)
set_option maxHeartbeats 1000000 in
theorem deleteFunc_c {w : World} {base n : Nat} {v : Value} {xs : List Int} (hown : w.ownsRow base 3 1 v n (xs.map (Value.int .i64))) {b : Nat} {q : Int} (hc : w.cell? ⟨b, 0, none⟩ = some (.int .i64 q)) (hb : b < w.heap.size) (hbv : v.ownBlock ≠ some b) :
    Calls Try.prog 45 #[v, .func (.func 46) #[] #[.pointer (some ⟨b, 0, none⟩)]] w (DelPost w base v xs q) := by
  have hI := IntsAt.of_own hown
  obtain rfl := ints_map xs n hown.1
  rcases idxT_split xs q with ⟨hnot, hix⟩ | ⟨k, hk, hnot, hkq, hix⟩
  · have hfin : DelPost w base v xs q (.returned v) w := ⟨v, rfl, by rw [butT_not hnot]; exact hown, Chg.refl _ _, fun c h => h⟩
    replace hix := hid hix
    have hfin := hid hfin
    obtain ⟨ao, cap, rfl⟩ := hI.shape
    clear hown
    go_enter Try.func45, Try.ntmps45
    go_wp2_with (first | (go_at_call 50; (with_reducible refine (indexFunc_c hI hc).mono ?_); rw [hix.out]; rintro e w' ⟨rfl, rfl⟩))
    go_ret
    exact hfin.out
  · obtain ⟨g, cap, ex, rfl, hbg, hp, hnc, hcm⟩ := own_split hown (by omega)
    have hbg' : b ≠ g := fun e => hbv (by rw [e]; rfl)
    replace hix := hid hix
    have hst := hid (Half.start hk hnot hkq)
    have hI := hid hI
    unfold maxLen at hcm
    have hsz : (xs.map (Value.int .i64) ++ ex).length = cap := by
      rcases hown.2 with ⟨h, _⟩ | ⟨g', cap', cur, h1, _, hh, _, _, hcs, _⟩
      · cases h
      · simp only [Value.slice.injEq, Option.some.injEq, Addr.mk.injEq] at h1
        obtain ⟨⟨rfl, _, _⟩, _, rfl⟩ := h1
        unfold pts at hp
        rw [hp] at hh
        simp only [Option.some.injEq, Obj.cells.injEq] at hh
        rw [← hh.1] at hcs
        simpa using hcs
    have hsz := hid hsz
    have hw0 := hid (Chg.refl (Row g) w)
    clear hown hkq hnot
    go_enter Try.func45, Try.ntmps45
    go_wp2_with (first | (go_at_call 50; (with_reducible refine (indexFunc_c hI.out hc).mono ?_); rw [hix.out]; rintro e w' ⟨rfl, rfl⟩))
    go_loopg [5, 6, 7] (xs.length - (k + 1)) (fun gg si sj s7 wr => ∃ (i j : Nat) (ys : List Int), si = .int .i64 i ∧ sj = .int .i64 j ∧ gg = xs.length - j ∧ pts wr g (ys.map (Value.int .i64) ++ ex) 3 ∧ Half xs ys q i j ∧ Chg (Row g) w wr)
    case atStart => exact ⟨k, k + 1, xs, rfl, by go_num, rfl, hp, hst.out, hw0.out⟩
    case round =>
      clear hst hw0
      obtain ⟨i, j, ys, rfl, rfl, hgg, hpr, hh, hch⟩ := hrel
      have hcr := (World.cell?_of_block (a := ⟨b, 0, none⟩) (hch.block b hb hbg')).trans hc
      have hlen := hh.len
      have hij := hh.lt
      have hjl := hh.le
      by_cases hlt : j < xs.length
      · have hj' : j < ys.length := by omega
        have cj := hpr.int j hj'
        have ci := hpr.cell i
        have fi := hpr.frozen i
        rw [List.getElem?_append_left (by simp; omega), List.getElem?_map, List.getElem?_eq_getElem (by omega)] at ci
        simp only [Option.map_some] at ci
        rw [hh.at_ hlt hj'] at cj
        have hgl := hpr.lt
        replace hlen := hid hlen
        have hch := hid hch
        by_cases he : xs[j] = q
        · have hn := hid (hh.skip hlt he)
          rw [he] at cj
          clear he
          have hh := hid hh
          have hpr := hid hpr
          go_wp2_with (first | (go_at_call 46; (with_reducible refine (away1_c hcr q).mono ?_); rintro e w' ⟨rfl, rfl⟩))
          go_roundg (xs.length - (j + 1))
          case rel => exact ⟨i, j + 1, ys, rfl, by go_num, rfl, hpr.out, hn.out, hch.out⟩
          case measure => omega
        · have hn := hid (hh.keep hlt he)
          have hq : (xs[j] == q) = false := by simpa using he
          replace he := hid he
          have hh := hid hh
          have hpr := hid hpr
          go_wp2_with (first | (go_at_call 46; (with_reducible refine (away1_c hcr xs[j]).mono ?_); rw [hq]; rintro e w' ⟨rfl, rfl⟩))
          go_roundg (xs.length - (j + 1))
          case rel => exact ⟨i + 1, j + 1, ys.set i xs[j], by go_num, by go_num, rfl, by have := hpr.out.set i (.int .i64 xs[j]); rwa [map_set_ex _ _ _ _ (by have := hlen.out; omega)] at this, hn.out, hch.out.setB rfl⟩
          case measure => omega
      · obtain rfl : j = xs.length := by omega
        have hcl : ∀ ty, (Builtin.clear_ #[22] ty #[.slice (some ⟨g, i, none⟩) (xs.length - i) (cap - i)]).run Try.prog wr = .ok (.tuple #[]) (wr.setRow g ((ys.map (Value.int .i64) ++ ex).take i ++ List.replicate (xs.length - i) (Value.int .i64 0) ++ (ys.map (Value.int .i64) ++ ex).drop (i + (List.replicate (xs.length - i) (Value.int .i64 0)).length)).toArray) :=
          fun ty => run_clear_row (P := Try.prog) (t := 22) (ty := ty) (n := xs.length - i) (c := cap - i) Try.underlying22 zeroI hpr (o := i) (by omega) (zeros_list _) (by simp [Value.oneCell']) (by simp; omega)
        have hfin : DelPost w base (.slice (some ⟨g, 0, none⟩) xs.length cap) xs q (.returned (.slice (some ⟨g, 0, none⟩) i cap)) (wr.setRow g ((ys.map (Value.int .i64) ++ ex).take i ++ List.replicate (xs.length - i) (Value.int .i64 0) ++ (ys.map (Value.int .i64) ++ ex).drop (i + (List.replicate (xs.length - i) (Value.int .i64 0)).length)).toArray) := by
          have hlo := hh.lo
          rw [List.take_length] at hlo
          have hbl : (butT xs q).length = i := by rw [← hlo]; simp; omega
          have htk : (ys.map (Value.int .i64) ++ ex).take i = (butT xs q).map (Value.int .i64) := by
            rw [List.take_append_of_le_length (by simp; omega), ← List.map_take, hlo]
          refine ⟨_, rfl, ?_, (hch.setRow (.inl rfl) _).mono (fun c h => by have h : c = g := h; subst h; rfl), fun c h => h⟩
          rw [hbl]
          refine ⟨by simp [hbl], .inr ⟨g, cap, _, rfl, hbg, hpr.setRow _, by omega, by unfold maxLen; exact hcm, ?_, ?_⟩⟩
          · have := hsz.out
            simp only [List.size_toArray, List.length_append, List.length_map, List.length_take, List.length_drop, List.length_replicate] at this ⊢
            omega
          · rw [← htk]
            simp only [Nat.mul_one]
            rw [List.append_assoc, List.take_left']
            simp; omega
        generalize wr.setRow g ((ys.map (Value.int .i64) ++ ex).take i ++ List.replicate (xs.length - i) (Value.int .i64 0) ++ (ys.map (Value.int .i64) ++ ex).drop (i + (List.replicate (xs.length - i) (Value.int .i64 0)).length)).toArray = w2 at hcl hfin
        have hfin := hid hfin
        have hh := hid hh
        have hpr := hid hpr
        replace hlen := hid hlen
        have i1 : (i : Int) ≤ (xs.length : Int) := by omega
        go_wp2_with (at_builtin; refine wpList_clear_run rfl (.tmp 38) 22 rfl rfl (hcl _) ?_)
        go_ret
        exact hfin.out
end Go.Proofs.Ytnlmkllhmldgiaa.Qu
