/- DERIVED. The walks over slices.IndexFunc and slices.DeleteFunc at the port's closure (those that are a process), and slices.Contains. -/
/- DERIVED. A port in memory, and the walk over away: processes that wait no more. -/
/- DERIVED. The walks over the port: New, Len, Waiting, Waits, Put. -/
/- DERIVED. The walk over slices.Delete at a port's messages: the first one is struck. -/
/- DERIVED. The walk over the port's Ask. -/
/- DERIVED. The port's calls in short words, and the small helpers of the statements on ports: early, kind, the document's example. -/
/- DERIVED. The walk over the port's Sweep. -/
/- DERIVED. The walk over the port's All: copies of all its messages. -/
/- DERIVED. A step's message (of at most 8 words), and the port's calls on messages in short words. -/
/- DERIVED. The port's calls on messages, in words that keep what lies apart from the port: Sweep, Ask, All. -/
import Derived.Test.YtggfallodkbgcaaK2
import Derived.Test.YtggfallodkbgcaaLibA
import Derived.Deep.LoopGhost
import Derived.Deep.DeepCutAuto
import Derived.Deep.CutBlock
import Derived.Test.YtggfallodkbgcaaWheelW
import Derived.Deep.AppendLies
import Derived.Deep.RegionLaw
import Derived.Test.YtggfallodkbgcaaK3
namespace Go.Proofs.Ytggfallodkbgcaa.Qu
set_option linter.unusedVariables false
set_option linter.unusedSimpArgs false
open Go.RowKit Go.Proofs.Ytggfallodkbgcaa.K Go.Proofs.Ytggfallodkbgcaa.Lb

theorem away1_c {w : World} {b : Nat} {q : Int} (hc : w.cell? ⟨b, 0, none⟩ = some (.int .i64 q)) (x : Int) : Calls Try.prog 83 #[.int .i64 x, .pointer (some ⟨b, 0, none⟩)] w fun e w' => e = .returned (.bool (x == q)) ∧ w = w' := by
  go_enter Try.func83, Try.ntmps83
  go_wp2
  go_ret
  exact ⟨rfl, rfl⟩
/-- The first place of q, or -1. -/
def idxT : List Int → Int → Int
  | [], _ => -1
  | y :: r, q => if y = q then 0 else if idxT r q < 0 then -1 else idxT r q + 1
theorem idxT_none {xs : List Int} {q : Int} (h : q ∉ xs) : idxT xs q = -1 := by
  induction xs with
  | nil => rfl
  | cons y r ih =>
    simp only [List.mem_cons, not_or] at h
    unfold idxT
    rw [if_neg (Ne.symm h.1), ih h.2]; rfl
theorem idxT_found {xs : List Int} {q : Int} {k : Nat} (hk : k < xs.length) (h : q ∉ xs.take k) (he : xs[k] = q) : idxT xs q = k := by
  induction xs generalizing k with
  | nil => simp at hk
  | cons y r ih =>
    cases k with
    | zero => simp only [List.getElem_cons_zero] at he; unfold idxT; rw [if_pos he]; rfl
    | succ k =>
      simp only [List.take_succ_cons, List.mem_cons, not_or] at h
      simp only [List.getElem_cons_succ] at he
      have h1 := ih (k := k) (by simpa using hk) h.2 he
      unfold idxT
      rw [if_neg (Ne.symm h.1), h1, if_neg (by omega)]; omega
theorem not_take_succ {xs : List Int} {q : Int} {k : Nat} (hk : k < xs.length) (h : q ∉ xs.take k) (he : xs[k] ≠ q) : q ∉ xs.take (k + 1) := by
  rw [List.take_succ_eq_append_getElem hk]
  simp only [List.mem_append, List.mem_singleton, not_or]
  exact ⟨h, Ne.symm he⟩
theorem indexFunc_c {ok : Nat → Prop} {w : World} {v : Value} {xs : List Int} (h : IntsAt ok w v xs) {b : Nat} {q : Int} (hc : w.cell? ⟨b, 0, none⟩ = some (.int .i64 q)) :
    Calls Try.prog 62 #[v, .func (.func 83) #[] #[.pointer (some ⟨b, 0, none⟩)]] w fun e w' => e = .returned (.int .i64 (idxT xs q)) ∧ w = w' := by
  obtain ⟨ao, cap, rfl⟩ := h.shape
  obtain ⟨-, hl, hm, hget⟩ := h.get
  have hget := hid hget
  go_enter Try.func62, Try.ntmps62
  go_wp2
  go_loopg [8] xs.length (fun g i wr => w = wr ∧ ∃ k : Nat, k ≤ xs.length ∧ g = xs.length - k ∧ i = .int .i64 k ∧ q ∉ xs.take k)
  case atStart => exact ⟨rfl, 0, Nat.zero_le _, rfl, rfl, by simp⟩
  case round =>
    obtain ⟨rfl, k, hk, hgk, rfl, hnot⟩ := hrel
    by_cases hlt : k < xs.length
    · obtain ⟨g, o, rfl, -, hg, ck⟩ := hget.out k hlt
      by_cases he : xs[k] = q
      · have hi := hid (idxT_found hlt hnot he)
        rw [he] at ck
        clear he
        go_wp2_with (first | (go_at_call 83; (with_reducible refine (away1_c hc q).mono ?_); rintro e w' ⟨rfl, rfl⟩))
        go_ret
        exact ⟨by rw [hi.out]; rfl, rfl⟩
      · have hn := hid (not_take_succ hlt hnot he)
        have hq : (xs[k] == q) = false := by simpa using he
        replace he := hid he
        go_wp2_with (first | (go_at_call 83; (with_reducible refine (away1_c hc xs[k]).mono ?_); rw [hq]; rintro e w' ⟨rfl, rfl⟩))
        go_roundg (xs.length - (k + 1))
        case rel => exact ⟨rfl, k + 1, by omega, rfl, by go_num, hn.out⟩
        case measure => omega
    · obtain rfl : k = xs.length := by omega
      rw [List.take_length] at hnot
      have hi := hid (idxT_none hnot)
      go_wp2
      go_ret
      exact ⟨by rw [hi.out]; rfl, rfl⟩

/-- All but q. -/
def butT (xs : List Int) (q : Int) : List Int := xs.filter (fun x => x != q)
theorem butT_not {xs : List Int} {q : Int} (h : q ∉ xs) : butT xs q = xs := by
  unfold butT
  rw [List.filter_eq_self]
  intro x hx
  simp only [bne_iff_ne]
  intro e; subst e; exact h hx
theorem butT_take_eq {xs : List Int} {q : Int} {j : Nat} (hj : j < xs.length) (he : xs[j] = q) : butT (xs.take (j + 1)) q = butT (xs.take j) q := by
  rw [List.take_succ_eq_append_getElem hj]; unfold butT; rw [List.filter_append]; simp [he]
theorem butT_take_ne {xs : List Int} {q : Int} {j : Nat} (hj : j < xs.length) (he : xs[j] ≠ q) : butT (xs.take (j + 1)) q = butT (xs.take j) q ++ [xs[j]] := by
  rw [List.take_succ_eq_append_getElem hj]; unfold butT; rw [List.filter_append]; simp [he]
/-- Half way: the first i are those of the first j that stay; from j on nothing has moved. -/
structure Half (xs ys : List Int) (q : Int) (i j : Nat) : Prop where
  len : ys.length = xs.length
  lo : ys.take i = butT (xs.take j) q
  hi : ys.drop j = xs.drop j
  lt : i < j
  le : j ≤ xs.length
theorem Half.start {xs : List Int} {q : Int} {k : Nat} (hk : k < xs.length) (h : q ∉ xs.take k) (he : xs[k] = q) : Half xs xs q k (k + 1) :=
  ⟨rfl, by rw [butT_take_eq hk he, butT_not h], rfl, by omega, by omega⟩
theorem Half.at_ {xs ys : List Int} {q : Int} {i j : Nat} (h : Half xs ys q i j) (hj : j < xs.length) (hj' : j < ys.length) : ys[j] = xs[j] := by
  have h1 := congrArg (fun l => l[0]?) h.hi
  simp only [List.getElem?_drop, Nat.add_zero] at h1
  rw [List.getElem?_eq_getElem hj', List.getElem?_eq_getElem hj] at h1
  exact Option.some.inj h1
theorem Half.skip {xs ys : List Int} {q : Int} {i j : Nat} (h : Half xs ys q i j) (hj : j < xs.length) (he : xs[j] = q) : Half xs ys q i (j + 1) :=
  ⟨h.len, by rw [butT_take_eq hj he]; exact h.lo, by rw [← List.drop_drop, ← List.drop_drop, h.hi], by have := h.lt; omega, by omega⟩
theorem Half.keep {xs ys : List Int} {q : Int} {i j : Nat} (h : Half xs ys q i j) (hj : j < xs.length) (he : xs[j] ≠ q) : Half xs (ys.set i xs[j]) q (i + 1) (j + 1) := by
  have hl := h.len
  have hlt := h.lt
  refine ⟨by simpa using hl, ?_, ?_, by omega, by omega⟩
  · rw [butT_take_ne hj he, ← h.lo, List.take_succ_eq_append_getElem (by simp; omega), List.take_set, List.set_eq_of_length_le (by simp; omega)]
    simp
  · rw [List.drop_set_of_lt (by omega), ← List.drop_drop, ← List.drop_drop, h.hi]
theorem idxT_split (xs : List Int) (q : Int) : (q ∉ xs ∧ idxT xs q = -1) ∨ ∃ k : Nat, ∃ hk : k < xs.length, q ∉ xs.take k ∧ xs[k] = q ∧ idxT xs q = k := by
  by_cases h : q ∈ xs
  · right
    have key : ∀ (n : Nat) (xs : List Int), xs.length = n → q ∈ xs → ∃ k : Nat, ∃ hk : k < xs.length, q ∉ xs.take k ∧ xs[k] = q := by
      intro n
      induction n with
      | zero => intro xs hl hq; have : xs = [] := List.eq_nil_of_length_eq_zero hl; subst this; cases hq
      | succ n ih =>
        intro xs hl hq
        cases xs with
        | nil => cases hq
        | cons y r =>
          by_cases hy : y = q
          · exact ⟨0, by simp, by simp, by simpa using hy⟩
          · obtain ⟨k, hk, h1, h2⟩ := ih r (by simpa using hl) (by rcases List.mem_cons.1 hq with h | h; exact absurd h.symm hy; exact h)
            exact ⟨k + 1, by simpa using hk, by simp only [List.take_succ_cons, List.mem_cons, not_or]; exact ⟨Ne.symm hy, h1⟩, by simpa using h2⟩
    obtain ⟨k, hk, h1, h2⟩ := key _ xs rfl h
    exact ⟨k, hk, h1, h2, idxT_found hk h1 h2⟩
  · exact .inl ⟨h, idxT_none h⟩
theorem zeroI (w : World) : (zeroValue 3).run Try.prog w = .ok (.int .i64 0) w := by kernel_rfl
theorem zeros_list (n : Nat) : (Builtin.zeroCells (Value.int .i64 0).cells n).toList = List.replicate n (.int .i64 0) := by
  simp [Builtin.zeroCells, Value.cells, Nat.mod_one, List.map_const']
def Row (g : Nat) : Nat → Prop := fun c => c = g
def DelPost (w : World) (base : Nat) (v : Value) (xs : List Int) (q : Int) (e : Ending) (w' : World) : Prop :=
  ∃ v', e = .returned v' ∧ w'.ownsRow base 3 1 v' (butT xs q).length ((butT xs q).map (Value.int .i64)) ∧ Chg (fun c => v.ownBlock = some c) w w' ∧ (∀ c, v'.ownBlock = some c → v.ownBlock = some c)
set_option maxHeartbeats 1000000 in
theorem deleteFunc_c {w : World} {base n : Nat} {v : Value} {xs : List Int} (hown : w.ownsRow base 3 1 v n (xs.map (Value.int .i64))) {b : Nat} {q : Int} (hc : w.cell? ⟨b, 0, none⟩ = some (.int .i64 q)) (hb : b < w.heap.size) (hbv : v.ownBlock ≠ some b) :
    Calls Try.prog 82 #[v, .func (.func 83) #[] #[.pointer (some ⟨b, 0, none⟩)]] w (DelPost w base v xs q) := by
  have hI := IntsAt.of_own hown
  obtain rfl := ints_map xs n hown.1
  rcases idxT_split xs q with ⟨hnot, hix⟩ | ⟨k, hk, hnot, hkq, hix⟩
  · have hfin : DelPost w base v xs q (.returned v) w := ⟨v, rfl, by rw [butT_not hnot]; exact hown, Chg.refl _ _, fun c h => h⟩
    replace hix := hid hix
    have hfin := hid hfin
    obtain ⟨ao, cap, rfl⟩ := hI.shape
    clear hown
    go_enter Try.func82, Try.ntmps82
    go_wp2_with (first | (go_at_call 62; (with_reducible refine (indexFunc_c hI hc).mono ?_); rw [hix.out]; rintro e w' ⟨rfl, rfl⟩))
    go_ret
    exact hfin.out
  · obtain ⟨g, cap, ex, rfl, hbg, hp, hnc, hcm⟩ := own_split hown (by omega)
    have hbg' : b ≠ g := fun e => hbv (by rw [e]; rfl)
    replace hix := hid hix
    have hst := hid (Half.start hk hnot hkq)
    have hI := hid hI
    unfold maxLen at hcm
    have hsz : (xs.map (Value.int .i64) ++ ex).length = cap := by
      rcases hown.2 with ⟨h, _⟩ | ⟨g', cap', cur, h1, _, hh, _, _, hcs, _⟩
      · cases h
      · simp only [Value.slice.injEq, Option.some.injEq, Addr.mk.injEq] at h1
        obtain ⟨⟨rfl, _, _⟩, _, rfl⟩ := h1
        unfold pts at hp
        rw [hp] at hh
        simp only [Option.some.injEq, Obj.cells.injEq] at hh
        rw [← hh.1] at hcs
        simpa using hcs
    have hsz := hid hsz
    have hw0 := hid (Chg.refl (Row g) w)
    clear hown hkq hnot
    go_enter Try.func82, Try.ntmps82
    go_wp2_with (first | (go_at_call 62; (with_reducible refine (indexFunc_c hI.out hc).mono ?_); rw [hix.out]; rintro e w' ⟨rfl, rfl⟩))
    go_loopg [5, 6, 7] (xs.length - (k + 1)) (fun gg si sj s7 wr => ∃ (i j : Nat) (ys : List Int), si = .int .i64 i ∧ sj = .int .i64 j ∧ gg = xs.length - j ∧ pts wr g (ys.map (Value.int .i64) ++ ex) 3 ∧ Half xs ys q i j ∧ Chg (Row g) w wr)
    case atStart => exact ⟨k, k + 1, xs, rfl, by go_num, rfl, hp, hst.out, hw0.out⟩
    case round =>
      clear hst hw0
      obtain ⟨i, j, ys, rfl, rfl, hgg, hpr, hh, hch⟩ := hrel
      have hcr := (World.cell?_of_block (a := ⟨b, 0, none⟩) (hch.block b hb hbg')).trans hc
      have hlen := hh.len
      have hij := hh.lt
      have hjl := hh.le
      by_cases hlt : j < xs.length
      · have hj' : j < ys.length := by omega
        have cj := hpr.int j hj'
        have ci := hpr.cell i
        have fi := hpr.frozen i
        rw [List.getElem?_append_left (by simp; omega), List.getElem?_map, List.getElem?_eq_getElem (by omega)] at ci
        simp only [Option.map_some] at ci
        rw [hh.at_ hlt hj'] at cj
        have hgl := hpr.lt
        replace hlen := hid hlen
        have hch := hid hch
        by_cases he : xs[j] = q
        · have hn := hid (hh.skip hlt he)
          rw [he] at cj
          clear he
          have hh := hid hh
          have hpr := hid hpr
          go_wp2_with (first | (go_at_call 83; (with_reducible refine (away1_c hcr q).mono ?_); rintro e w' ⟨rfl, rfl⟩))
          go_roundg (xs.length - (j + 1))
          case rel => exact ⟨i, j + 1, ys, rfl, by go_num, rfl, hpr.out, hn.out, hch.out⟩
          case measure => omega
        · have hn := hid (hh.keep hlt he)
          have hq : (xs[j] == q) = false := by simpa using he
          replace he := hid he
          have hh := hid hh
          have hpr := hid hpr
          go_wp2_with (first | (go_at_call 83; (with_reducible refine (away1_c hcr xs[j]).mono ?_); rw [hq]; rintro e w' ⟨rfl, rfl⟩))
          go_roundg (xs.length - (j + 1))
          case rel => exact ⟨i + 1, j + 1, ys.set i xs[j], by go_num, by go_num, rfl, by have := hpr.out.set i (.int .i64 xs[j]); rwa [map_set_ex _ _ _ _ (by have := hlen.out; omega)] at this, hn.out, hch.out.setB rfl⟩
          case measure => omega
      · obtain rfl : j = xs.length := by omega
        have hcl : ∀ ty, (Builtin.clear_ #[35] ty #[.slice (some ⟨g, i, none⟩) (xs.length - i) (cap - i)]).run Try.prog wr = .ok (.tuple #[]) (wr.setRow g ((ys.map (Value.int .i64) ++ ex).take i ++ List.replicate (xs.length - i) (Value.int .i64 0) ++ (ys.map (Value.int .i64) ++ ex).drop (i + (List.replicate (xs.length - i) (Value.int .i64 0)).length)).toArray) :=
          fun ty => run_clear_row (P := Try.prog) (t := 35) (ty := ty) (n := xs.length - i) (c := cap - i) Try.underlying35 zeroI hpr (o := i) (by omega) (zeros_list _) (by simp [Value.oneCell']) (by simp; omega)
        have hfin : DelPost w base (.slice (some ⟨g, 0, none⟩) xs.length cap) xs q (.returned (.slice (some ⟨g, 0, none⟩) i cap)) (wr.setRow g ((ys.map (Value.int .i64) ++ ex).take i ++ List.replicate (xs.length - i) (Value.int .i64 0) ++ (ys.map (Value.int .i64) ++ ex).drop (i + (List.replicate (xs.length - i) (Value.int .i64 0)).length)).toArray) := by
          have hlo := hh.lo
          rw [List.take_length] at hlo
          have hbl : (butT xs q).length = i := by rw [← hlo]; simp; omega
          have htk : (ys.map (Value.int .i64) ++ ex).take i = (butT xs q).map (Value.int .i64) := by
            rw [List.take_append_of_le_length (by simp; omega), ← List.map_take, hlo]
          refine ⟨_, rfl, ?_, (hch.setRow (.inl rfl) _).mono (fun c h => by have h : c = g := h; subst h; rfl), fun c h => h⟩
          rw [hbl]
          refine ⟨by simp [hbl], .inr ⟨g, cap, _, rfl, hbg, hpr.setRow _, by omega, by unfold maxLen; exact hcm, ?_, ?_⟩⟩
          · have := hsz.out
            simp only [List.size_toArray, List.length_append, List.length_map, List.length_take, List.length_drop, List.length_replicate] at this ⊢
            omega
          · rw [← htk]
            simp only [Nat.mul_one]
            rw [List.append_assoc, List.take_left']
            simp; omega
        generalize wr.setRow g ((ys.map (Value.int .i64) ++ ex).take i ++ List.replicate (xs.length - i) (Value.int .i64 0) ++ (ys.map (Value.int .i64) ++ ex).drop (i + (List.replicate (xs.length - i) (Value.int .i64 0)).length)).toArray = w2 at hcl hfin
        have hfin := hid hfin
        have hh := hid hh
        have hpr := hid hpr
        replace hlen := hid hlen
        have i1 : (i : Int) ≤ (xs.length : Int) := by omega
        go_wp2_with (at_builtin; refine wpList_clear_run rfl (.tmp 38) 35 rfl rfl (hcl _) ?_)
        go_ret
        exact hfin.out
end Go.Proofs.Ytggfallodkbgcaa.Qu

namespace Go.Proofs.Ytggfallodkbgcaa.Qu
set_option linter.unusedVariables false
set_option linter.unusedSimpArgs false
open Go.RowKit Go.Maps Go.Proofs.Ytggfallodkbgcaa.K Go.Proofs.Ytggfallodkbgcaa.Lb Go.Proofs.Ytggfallodkbgcaa.Wh

/-- The blocks that a port's calls may write. -/
def PMut (pb wb mb : Nat) (lv rv : Value) : Nat → Prop := fun b => b = pb ∨ b = wb ∨ b = mb ∨ lv.ownBlock = some b ∨ rv.ownBlock = some b
theorem own_at {w : World} {base : Nat} {T : TypeId} {k n : Nat} {v : Value} {xs : List Value} (h : w.ownsRow base T k v n xs) {b : Nat} (hb : v.ownBlock = some b) : ∃ cs, w.heap[b]? = some (.cells cs T (0, 0)) := by
  rcases h.2 with ⟨rfl, _⟩ | ⟨g, cap, cur, rfl, _, hh, _⟩
  · cases hb
  · simp only [Value.ownBlock, Option.some.injEq] at hb
    subst hb
    exact ⟨cur, hh⟩
theorem pts_ne {w : World} {a b : Nat} {cs ds : List Value} {T T' : TypeId} (h1 : pts w a cs T) (h2 : pts w b ds T') (hT : T ≠ T') : a ≠ b := by
  intro e; subst e
  unfold pts at h1 h2
  rw [h1] at h2
  simp only [Option.some.injEq, Obj.cells.injEq] at h2
  exact hT h2.2.1
/-- A port: its struct's block pb; its wheel; its messages ps; who waits, xs. -/
structure PortAt (w : World) (base pb wb mb : Nat) (hold : Int) (lv rv : Value) (ps : List (Value × Msg)) (xs : List Int) (n : Nat) (D : DataW Unit) (s : Int) : Prop where
  at_ : pts w pb [.pointer (some ⟨wb, 0, none⟩), .int .i64 hold, lv, rv] 70
  wh : WheelAt w wb mb n D s
  l : w.ownsRow base 37 5 lv ps.length (flat encM ps)
  row : w.ownsRow base 3 1 rv xs.length (xs.map (Value.int .i64))
  words : WordsIn (fun b => ¬ PMut pb wb mb lv rv b) w ps
  ge : base ≤ pb ∧ base ≤ wb ∧ base ≤ mb
section
variable {w : World} {base pb wb mb : Nat} {hold : Int} {lv rv : Value} {ps : List (Value × Msg)} {xs : List Int} {n : Nat} {D : DataW Unit} {s : Int}
theorem PortAt.map_ne (h : PortAt w base pb wb mb hold lv rv ps xs n D s) {b : Nat} {cs : Array Value} {T : TypeId} (hb : w.heap[b]? = some (.cells cs T (0, 0))) : b ≠ mb := by
  intro e; subst e
  obtain ⟨es, clock, hm, _⟩ := h.wh.map
  rw [hm] at hb; cases hb
/-- The blocks of a port stand apart. -/
theorem PortAt.apart (h : PortAt w base pb wb mb hold lv rv ps xs n D s) : pb ≠ wb ∧ pb ≠ mb ∧ wb ≠ mb ∧ (∀ b, lv.ownBlock = some b → b ≠ pb ∧ b ≠ wb ∧ b ≠ mb) ∧ (∀ b, rv.ownBlock = some b → b ≠ pb ∧ b ≠ wb ∧ b ≠ mb) ∧ (∀ b, lv.ownBlock = some b → rv.ownBlock ≠ some b) := by
  have hw := h.wh.at_
  have hp := h.at_
  refine ⟨pts_ne hp hw (by decide), h.map_ne hp, h.wh.ne, fun b hb => ?_, fun b hb => ?_, fun b hb hb2 => ?_⟩
  · obtain ⟨cs, hc⟩ := own_at h.l hb
    exact ⟨pts_ne (cs := cs.toList) (by simpa [pts] using hc) hp (by decide), pts_ne (cs := cs.toList) (by simpa [pts] using hc) hw (by decide), h.map_ne hc⟩
  · obtain ⟨cs, hc⟩ := own_at h.row hb
    exact ⟨pts_ne (cs := cs.toList) (by simpa [pts] using hc) hp (by decide), pts_ne (cs := cs.toList) (by simpa [pts] using hc) hw (by decide), h.map_ne hc⟩
  · obtain ⟨cs, hc⟩ := own_at h.l hb
    obtain ⟨ds, hd⟩ := own_at h.row hb2
    rw [hc] at hd
    simp only [Option.some.injEq, Obj.cells.injEq] at hd
    have : (37 : Nat) = 3 := hd.2.1
    cases this
theorem PortAt.mut_ge (h : PortAt w base pb wb mb hold lv rv ps xs n D s) {b : Nat} (hb : PMut pb wb mb lv rv b) : base ≤ b := by
  have hg := h.ge
  rcases hb with rfl | rfl | rfl | hb | hb
  · exact hg.1
  · exact hg.2.1
  · exact hg.2.2
  · exact own_block_ge h.l b hb
  · exact own_block_ge h.row b hb
theorem PortAt.mut_lt (h : PortAt w base pb wb mb hold lv rv ps xs n D s) {b : Nat} (hb : PMut pb wb mb lv rv b) : b < w.heap.size := by
  rcases hb with rfl | rfl | rfl | hb | hb
  · exact h.at_.lt
  · exact h.wh.lt.1
  · exact h.wh.lt.2
  · obtain ⟨cs, hc⟩ := own_at h.l hb; exact (Array.getElem?_eq_some_iff.1 hc).1
  · obtain ⟨cs, hc⟩ := own_at h.row hb; exact (Array.getElem?_eq_some_iff.1 hc).1
theorem own_of {w w' : World} {base : Nat} {T : TypeId} {k n : Nat} {v : Value} {cs : List Value} (h : w.ownsRow base T k v n cs) (e : ∀ b, v.ownBlock = some b → w'.heap[b]? = w.heap[b]?) : w'.ownsRow base T k v n cs := by
  refine ⟨h.1, ?_⟩
  rcases h.2 with h1 | ⟨g, cap, cur, rfl, h2, hh, h3⟩
  · exact .inl h1
  · exact .inr ⟨g, cap, cur, rfl, h2, (e g rfl).trans hh, h3⟩
theorem PortAt.below {w' : World} (h : PortAt w base pb wb mb hold lv rv ps xs n D s) (hb : Below w.heap.size w w') : PortAt w' base pb wb mb hold lv rv ps xs n D s :=
  ⟨h.at_.below hb, h.wh.below hb, own_of h.l (fun b e => hb.block b (h.mut_lt (.inr (.inr (.inr (.inl e)))))), own_of h.row (fun b e => hb.block b (h.mut_lt (.inr (.inr (.inr (.inr e)))))), h.words.below hb, h.ge⟩
/-- A call's change of the port's blocks leaves what is below base. -/
theorem PortAt.toBelow {w0 w' : World} {B : Nat} (h : PortAt w base pb wb mb hold lv rv ps xs n D s) (hB : Below B w0 w) (hBs : B ≤ w.heap.size) (hBb : B ≤ base) (hc : Chg (PMut pb wb mb lv rv) w w') : Below B w0 w' :=
  hB.trans (hc.toBelow hBs (fun i hi => Nat.le_trans hBb (h.mut_ge hi)))
theorem own_shape {w : World} {base : Nat} {T : TypeId} {k n : Nat} {v : Value} {cs : List Value} (h : w.ownsRow base T k v n cs) : ∃ ao cap, v = .slice ao n cap := by
  rcases h.2 with ⟨rfl, rfl⟩ | ⟨g, cap, cur, rfl, _⟩
  · exact ⟨_, _, rfl⟩
  · exact ⟨_, _, rfl⟩
/-- Behind Cancel and DeleteFunc, and the row stored. -/
theorem PortAt.awayStep {w2 w3 : World} (h : PortAt w base pb wb mb hold lv rv ps xs n D s) {D' : DataW Unit} {s' : Int} {n' : Nat} (hw : WheelAt w2 wb mb n' D' s') (hc : Chg (WM wb mb) w w2) {v' : Value} {ys : List Int} (hr : w3.ownsRow base 3 1 v' ys.length (ys.map (Value.int .i64))) (hd : Chg (fun c => rv.ownBlock = some c) w2 w3) (hv : ∀ c, v'.ownBlock = some c → rv.ownBlock = some c) :
    PortAt (w3.setCell ⟨pb, 3, none⟩ v') base pb wb mb hold lv v' ps ys n' D' s' ∧ Chg (PMut pb wb mb lv rv) w (w3.setCell ⟨pb, 3, none⟩ v') := by
  obtain ⟨a1, a2, a3, a4, a5, a6⟩ := h.apart
  have e2 : ∀ b, b < w.heap.size → b ≠ wb → b ≠ mb → w2.heap[b]? = w.heap[b]? := fun b hb h1 h2 => hc.block b hb (fun h => by rcases h with h | h <;> contradiction)
  have e3 : ∀ b, b < w.heap.size → b ≠ wb → b ≠ mb → rv.ownBlock ≠ some b → w3.heap[b]? = w.heap[b]? := fun b hb h1 h2 h3 => (hd.block b (Nat.lt_of_lt_of_le hb hc.size) h3).trans (e2 b hb h1 h2)
  have hp3 : pts w3 pb [.pointer (some ⟨wb, 0, none⟩), .int .i64 hold, lv, rv] 70 := h.at_.of (e3 pb h.at_.lt a1 a2 (fun h => (a5 pb h).1 rfl))
  have hC : Chg (PMut pb wb mb lv rv) w w3 := (hc.mono (fun i hi => by rcases hi with rfl | rfl; exact .inr (.inl rfl); exact .inr (.inr (.inl rfl)))).trans hd (fun i hi => .inl (.inr (.inr (.inr (.inr hi)))))
  refine ⟨⟨by simpa using hp3.set 3 v', ?_, ?_, ?_, ?_, h.ge⟩, hC.setB (.inl rfl)⟩
  · have hw3 : WheelAt w3 wb mb n' D' s' := hw.chg hd (fun h => (a5 wb h).2.1 rfl) (fun h => (a5 mb h).2.2 rfl)
    exact hw3.kept (Below.heap_setCell _ _ _ _ (Ne.symm a1)) (Below.heap_setCell _ _ _ _ (Ne.symm a2))
  · refine own_of (own_of h.l (fun b e => e3 b (h.mut_lt (.inr (.inr (.inr (.inl e))))) (a4 b e).2.1 (a4 b e).2.2 (a6 b e))) (fun b e => Below.heap_setCell _ _ _ _ (a4 b e).1)
  · exact own_of hr (fun b e => Below.heap_setCell _ _ _ _ (a5 b (hv b e)).1)
  · refine ((h.words.kept (w' := w3.setCell ⟨pb, 3, none⟩ v') (by simpa using hC.size) (fun b hb hlt => ?_))).mono (fun b hb _ hm => hb ?_)
    · rw [Below.heap_setCell _ _ _ _ (fun e => hb (.inl e))]
      exact hC.block b hlt hb
    · rcases hm with rfl | rfl | rfl | hm | hm
      · exact .inl rfl
      · exact .inr (.inl rfl)
      · exact .inr (.inr (.inl rfl))
      · exact .inr (.inr (.inr (.inl hm)))
      · exact .inr (.inr (.inr (.inr (hv b hm))))
theorem foldl_take {α : Type} {l : List Int} {k : Nat} (f : α → Int → α) (a : α) (h : k < l.length) : (l.take (k + 1)).foldl f a = f ((l.take k).foldl f a) l[k] := by
  rw [List.take_succ_eq_append_getElem h, List.foldl_append]; rfl
theorem Chg.ofDrew {M : Nat → Prop} {w w' : World} (h : Chg M w.drew w') : Chg M w w' := ⟨h.os, h.tape, h.output, h.size, h.block⟩
theorem PMut.of_row {pb wb mb : Nat} {lv rv rv' : Value} {b : Nat} (h : PMut pb wb mb lv rv' b) (hv : ∀ c, rv'.ownBlock = some c → rv.ownBlock = some c) : PMut pb wb mb lv rv b := by
  rcases h with h | h | h | h | h
  · exact .inl h
  · exact .inr (.inl h)
  · exact .inr (.inr (.inl h))
  · exact .inr (.inr (.inr (.inl h)))
  · exact .inr (.inr (.inr (.inr (hv b h))))
def AwayPost (w : World) (base pb wb mb : Nat) (hold : Int) (lv rv : Value) (ps : List (Value × Msg)) (xs : List Int) (n : Nat) (D : DataW Unit) (s : Int) (zs : List Int) (e : Ending) (w' : World) : Prop :=
  e = .returned (.tuple #[]) ∧ ∃ rv', PortAt w' base pb wb mb hold lv rv' ps (zs.foldl butT xs) n (zs.foldl (fun D z => D.del (.int .i64 z)) D) s ∧ Chg (PMut pb wb mb lv rv) w w' ∧ (∀ c, rv'.ownBlock = some c → rv.ownBlock = some c)
set_option maxHeartbeats 1000000 in
theorem away_c (h : PortAt w base pb wb mb hold lv rv ps xs n D s) {zv : Value} {zs : List Int} (hz : IntsAt (fun b => ¬ PMut pb wb mb lv rv b) w zv zs) (hzi : ∀ z ∈ zs, isInt z) :
    Calls Try.prog 73 #[.pointer (some ⟨pb, 0, none⟩), zv] w (AwayPost w base pb wb mb hold lv rv ps xs n D s zs) := by
  obtain ⟨az, cz, rfl⟩ := hz.shape
  obtain ⟨-, hl, hm, hget⟩ := hz.get
  have h0 := hid h
  have hget := hid hget
  have hzi := hid hzi
  clear h hz
  go_enter Try.func73, Try.ntmps73
  go_wp2
  go_loopg [8] zs.length (fun g i wr => ∃ (k : Nat) (rv' : Value), k ≤ zs.length ∧ g = zs.length - k ∧ i = .int .i64 k ∧ PortAt wr base pb wb mb hold lv rv' ps ((zs.take k).foldl butT xs) n ((zs.take k).foldl (fun D z => D.del (.int .i64 z)) D) s ∧ Chg (PMut pb wb mb lv rv) w wr ∧ (∀ c, rv'.ownBlock = some c → rv.ownBlock = some c))
  case atStart => exact ⟨0, rv, Nat.zero_le _, rfl, rfl, h0.out, Chg.refl _ _, fun c h => h⟩
  case round =>
    obtain ⟨k, rv', hk, hgk, rfl, hP, hC, hv⟩ := hrel
    by_cases hlt : k < zs.length
    · obtain ⟨g, o, rfl, hgm, hg, ck⟩ := hget.out k hlt
      have ck : wr.cell? ⟨g, o + k, none⟩ = some (.int .i64 zs[k]) := (World.cell?_of_block (a := ⟨g, o + k, none⟩) (hC.block g hg hgm)).trans ck
      have hzk := hzi.out _ (List.getElem_mem hlt)
      have ek : (zs.take (k + 1)).foldl butT xs = butT ((zs.take k).foldl butT xs) zs[k] := foldl_take _ _ hlt
      have ed : (zs.take (k + 1)).foldl (fun D z => D.del (.int .i64 z)) D = ((zs.take k).foldl (fun D z => D.del (.int .i64 z)) D).del (.int .i64 zs[k]) := foldl_take _ _ hlt
      go_upto_region 3 with fail
      have hb1 := (Below.refl wr.heap.size wr).alloc (Nat.le_refl _) (.cells #[.int .i64 zs[k]] 3)
      have hP1 := hP.below hb1
      have hC1 := hC.below hb1
      have hq1 : pts (wr.alloc (.cells #[.int .i64 zs[k]] 3)) wr.heap.size [.int .i64 zs[k]] 3 := pts.newA wr _ _
      have hcne : ∀ b, PMut pb wb mb lv rv' b → wr.heap.size ≠ b := fun b hb => by have := hP.mut_lt hb; omega
      generalize wr.alloc (.cells #[.int .i64 zs[k]] 3) = W1 at hP1 hC1 hq1 ⊢
      generalize wr.heap.size = cb at hq1 hcne ⊢
      clear hb1 hP hC ck
      have c0 := hP1.at_.cell 0
      have c1 := hq1.cell 0
      simp only [List.getElem?_cons_zero] at c0 c1
      generalize zs[k] = z at hzk ek ed hq1 c1 ⊢
      generalize (zs.take k).foldl butT xs = xs1 at hP1 ek ⊢
      generalize (zs.take k).foldl (fun D z => D.del (.int .i64 z)) D = D1 at hP1 ed ⊢
      have hPd : PortAt W1.drew base pb wb mb hold lv rv' ps xs1 n D1 s := hP1.below (Below.refl _ _).drew
      obtain ⟨a1, a2, a3, a4, a5, a6⟩ := hP1.apart
      have a1 := hid a1
      have a2 := hid a2
      have a3 := hid a3
      have a4 := hid a4
      have a5 := hid a5
      have a6 := hid a6
      have hcne := hid hcne
      have hcl := hid hq1.lt
      have hpl := hid hP1.at_.lt
      have hP1 := hid hP1
      have hPd := hid hPd
      have hC1 := hid hC1
      have hq1 := hid hq1
      have ek := hid ek
      have ed := hid ed
      go_region_held3 (fun W => W.cell? ⟨pb, 0, none⟩ = some (.pointer (some ⟨wb, 0, none⟩)) ∧ W.cell? ⟨cb, 0, none⟩ = some (.int .i64 z))
        (first | go_keep | ((try dsimp only); (repeat' apply And.intro) <;> go_keep))
        (first | (go_at_call 81; (with_reducible refine (cancel_c hPd.out.wh hzk).mono ?_); rintro e w2 ⟨rfl, hw2, hc2⟩; have hp2 := hPd.out.at_.chg hc2 (fun h => by rcases h with h | h; exact a1.out h; exact a2.out h); have hq2 := pts.chg (w := W1.drew) hq1.out hc2 (fun h => by rcases h with h | h; exact hcne.out _ (.inr (.inl rfl)) h; exact hcne.out _ (.inr (.inr (.inl rfl))) h); have p0 := hp2.cell 0; have p3 := hp2.cell 3; have q2 := hq2.cell 0; have hr2 := own_of hPd.out.row (fun b e => hc2.block b (hPd.out.mut_lt (.inr (.inr (.inr (.inr e))))) (fun h => by rcases h with rfl | rfl; exact (a5.out _ e).2.1 rfl; exact (a5.out _ e).2.2 rfl)); simp only [List.getElem?_cons_zero, List.getElem?_cons_succ] at p0 p3 q2; have q2l := hq2.lt; have hr2 := hid hr2; have hw2 := hid hw2; have hc2 := hid hc2; have hp2 := hid hp2))
      have hbv := hid (fun (e : rv'.ownBlock = some cb) => hcne.out cb (.inr (.inr (.inr (.inr e)))) rfl)
      go_wp2_with (first | (go_at_call 82; (with_reducible refine (deleteFunc_c hr2.out q2 q2l hbv.out).mono ?_); rintro e w3 ⟨v', rfl, hr3, hc3, hv3⟩; obtain ⟨av, cv, rfl⟩ := own_shape hr3; have hp3 := hp2.out.chg hc3 (fun h => (a5.out pb h).1 rfl); have s3 := hp3.cell 3; have sf := hp3.frozen 3; have sl := hp3.lt; simp only [List.getElem?_cons_zero, List.getElem?_cons_succ] at s3; have hS := hid (hPd.out.awayStep hw2.out hc2.out hr3 hc3 hv3); have hv3 := hid hv3; clear hr3 hc3 hp3))
      go_roundg (zs.length - (k + 1))
      case rel => exact ⟨k + 1, _, by omega, rfl, by go_num, by rw [ek.out, ed.out]; exact hS.out.1, hC1.out.trans (Chg.ofDrew hS.out.2) (fun i hi => .inl (hi.of_row hv)), fun c h => hv c (hv3.out c h)⟩
      case measure => omega
    · obtain rfl : k = zs.length := by omega
      rw [List.take_length] at hP
      have hfin := hid (show ∃ rv', PortAt wr base pb wb mb hold lv rv' ps (zs.foldl butT xs) n (zs.foldl (fun D z => D.del (.int .i64 z)) D) s ∧ Chg (PMut pb wb mb lv rv) w wr ∧ (∀ c, rv'.ownBlock = some c → rv.ownBlock = some c) from ⟨rv', hP, hC, hv⟩)
      clear hP hC
      go_wp2
      go_end0
      exact ⟨rfl, hfin.out⟩
end
end Go.Proofs.Ytggfallodkbgcaa.Qu

namespace Go.Proofs.Ytggfallodkbgcaa.Qu
set_option linter.unusedVariables false
set_option linter.unusedSimpArgs false
open Go.RowKit Go.Maps Go.Proofs.Ytggfallodkbgcaa.K Go.Proofs.Ytggfallodkbgcaa.Lb Go.Proofs.Ytggfallodkbgcaa.Wh

theorem elMsg : ElemOk Try.prog 41 37 5 56 := .mk' (z := .agg #[.slice none 0 0, .int .i64 0, .int .i64 0, .int .i64 0, .int .i64 0]) Try.underlying41 (by kernel_rfl) rfl (by decide)
def holdT (n : Int) : Int := min (max n 1) 8
def NewPort (w : World) (hold : Int) (e : Ending) (w' : World) : Prop := ∃ pb wb mb, e = .returned (.pointer (some ⟨pb, 0, none⟩)) ∧ PortAt w' w.heap.size pb wb mb (holdT hold) (.slice none 0 0) (.slice none 0 0) [] [] 0 (.map []) 0 ∧ Below w.heap.size w w'
theorem new_c (w : World) (hold : Int) : Calls Try.prog 10 #[.int .i64 hold] w (NewPort w hold) := by
  have h1 := minTwo
  have h2 := maxTwo
  go_enter Try.func10, Try.ntmps10
  go_wp2_with (first | (go_at_call 26; (with_reducible refine (Wh.new_c _).mono ?_); rintro e w1 ⟨wb, mb, rfl, hw, hwb, hmb, hb⟩; have hw := hid hw; have hb := hid hb))
  go_ret
  have hb2 := hb.out.alloc (o := .cells #[.pointer (some ⟨wb, 0, none⟩), .int .i64 (min (max hold 1) 8), .slice none 0 0, .slice none 0 0] 70) hb.out.size
  refine ⟨w1.heap.size, wb, mb, rfl, ⟨heap_at _ _ _ rfl, hw.out.below ((Below.refl _ _).alloc (Nat.le_refl _) _), World.ownsRow_nil _ _ _ _, World.ownsRow_nil _ _ _ _, WordsIn.nil _ _, hb.out.size, hwb, hmb⟩, hb2⟩
section
variable {w : World} {base pb wb mb : Nat} {hold : Int} {lv rv : Value} {ps : List (Value × Msg)} {xs : List Int} {n : Nat} {D : DataW Unit} {s : Int}
/-- The cells of a port. -/
theorem PortAt.cells (h : PortAt w base pb wb mb hold lv rv ps xs n D s) : w.cell? ⟨pb, 0, none⟩ = some (.pointer (some ⟨wb, 0, none⟩)) ∧ w.cell? ⟨pb, 1, none⟩ = some (.int .i64 hold) ∧ w.cell? ⟨pb, 2, none⟩ = some lv ∧ w.cell? ⟨pb, 3, none⟩ = some rv ∧ w.frozen? ⟨pb, 2, none⟩ = false ∧ w.frozen? ⟨pb, 3, none⟩ = false ∧ pb < w.heap.size :=
  ⟨h.at_.cell 0, h.at_.cell 1, h.at_.cell 2, h.at_.cell 3, h.at_.frozen 2, h.at_.frozen 3, h.at_.lt⟩
theorem len_c (h : PortAt w base pb wb mb hold lv rv ps xs n D s) : Calls Try.prog 21 #[.pointer (some ⟨pb, 0, none⟩)] w fun e w' => e = .returned (.int .i64 ps.length) ∧ w = w' := by
  obtain ⟨c0, c1, c2, c3, f2, f3, hpl⟩ := h.cells
  obtain ⟨al, cl, rfl⟩ := own_shape h.l
  have h := hid h
  go_enter Try.func21, Try.ntmps21
  go_wp2
  go_ret
  exact ⟨rfl, rfl⟩
theorem len_nil (w : World) : Calls Try.prog 21 #[.pointer none] w fun e w' => e = .returned (.int .i64 0) ∧ w = w' := by
  go_enter Try.func21, Try.ntmps21
  go_wp2
  go_ret
  exact ⟨rfl, rfl⟩
theorem PortAt.rowAt (h : PortAt w base pb wb mb hold lv rv ps xs n D s) : IntsAt (fun b => base ≤ b) w rv xs := IntsAt.of_own h.row
theorem index_c {ok : Nat → Prop} {v : Value} (h : IntsAt ok w v xs) (q : Int) :
    Calls Try.prog 74 #[v, .int .i64 q] w fun e w' => e = .returned (.int .i64 (idxT xs q)) ∧ w = w' := by
  obtain ⟨ao, cap, rfl⟩ := h.shape
  obtain ⟨-, hl, hm, hget⟩ := h.get
  have hget := hid hget
  clear h
  go_enter Try.func74, Try.ntmps74
  go_wp2
  go_loopg [8] xs.length (fun g i wr => w = wr ∧ ∃ k : Nat, k ≤ xs.length ∧ g = xs.length - k ∧ i = .int .i64 k ∧ q ∉ xs.take k)
  case atStart => exact ⟨rfl, 0, Nat.zero_le _, rfl, rfl, by simp⟩
  case round =>
    obtain ⟨rfl, k, hk, hgk, rfl, hnot⟩ := hrel
    by_cases hlt : k < xs.length
    · obtain ⟨g, o, rfl, -, hg, ck⟩ := hget.out k hlt
      by_cases he : xs[k] = q
      · have hi := hid (idxT_found hlt hnot he)
        rw [he] at ck
        clear he
        go_wp2
        go_ret
        exact ⟨by rw [hi.out] <;> rfl, rfl⟩
      · have hn := hid (not_take_succ hlt hnot he)
        have hq : (q == xs[k]) = false := by simpa using Ne.symm he
        replace he := hid he
        go_wp2
        go_roundg (xs.length - (k + 1))
        case rel => exact ⟨rfl, k + 1, by omega, rfl, by go_num, hn.out⟩
        case measure => omega
    · obtain rfl : k = xs.length := by omega
      rw [List.take_length] at hnot
      have hi := hid (idxT_none hnot)
      go_wp2
      go_ret
      exact ⟨by rw [hi.out] <;> rfl, rfl⟩
theorem idxT_ge (xs : List Int) (q : Int) : decide (0 ≤ idxT xs q) = decide (q ∈ xs) := by
  rcases idxT_split xs q with ⟨h, e⟩ | ⟨k, hk, _, h, e⟩
  · rw [e]; simp [h]
  · have : q ∈ xs := h ▸ List.getElem_mem hk
    rw [e]; simp [this]
theorem contains_c {ok : Nat → Prop} {v : Value} (h : IntsAt ok w v xs) (q : Int) :
    Calls Try.prog 61 #[v, .int .i64 q] w fun e w' => e = .returned (.bool (decide (q ∈ xs))) ∧ w = w' := by
  have he := hid (idxT_ge xs q)
  obtain ⟨ao, cap, rfl⟩ := h.shape
  go_enter Try.func61, Try.ntmps61
  go_wp2_with (first | (go_at_call 74; (with_reducible refine (index_c h q).mono ?_); rintro e w' ⟨rfl, rfl⟩))
  go_ret
  exact ⟨rbool (by rw [← he.out] <;> simp), rfl⟩
theorem waits_nil (w : World) (q : Int) : Calls Try.prog 43 #[.pointer none, .int .i64 q] w fun e w' => e = .returned (.bool false) ∧ w = w' := by
  go_enter Try.func43, Try.ntmps43
  go_wp2
  go_ret
  exact ⟨rfl, rfl⟩
theorem waits_c (h : PortAt w base pb wb mb hold lv rv ps xs n D s) (q : Int) : Calls Try.prog 43 #[.pointer (some ⟨pb, 0, none⟩), .int .i64 q] w fun e w' => e = .returned (.bool (decide (q ∈ xs))) ∧ w = w' := by
  obtain ⟨c0, c1, c2, c3, f2, f3, hpl⟩ := h.cells
  have hr := hid h.rowAt
  obtain ⟨ar, cr, rfl⟩ := own_shape h.row
  have h := hid h
  go_enter Try.func43, Try.ntmps43
  go_wp2_with (first | (go_at_call 61; (with_reducible refine (contains_c hr.out q).mono ?_); rintro e w' ⟨rfl, rfl⟩))
  go_ret
  exact ⟨rfl, rfl⟩

/-- What Put leaves: the port's parts, and its answer. -/
def putL (ps : List (Value × Msg)) (xs : List Int) (hold : Int) (p : Value × Msg) : List (Value × Msg) := if xs = [] ∧ (ps.length : Int) ≠ hold then ps ++ [p] else ps
theorem putRow_c (h : PortAt w base pb wb mb hold lv rv ps xs n D s) (p : Value × Msg) (hp : ∃ a n c, p.1 = .slice a n c) {x : Int} {r : List Int} (hx : xs = x :: r) (hxi : isInt x) :
    Calls Try.prog 59 #[.pointer (some ⟨pb, 0, none⟩), aggM p] w fun e w' => e = .returned (.tuple #[.int .i64 x, .bool true, .int .i64 0]) ∧ ∃ rv', PortAt w' base pb wb mb hold lv rv' ps (butT xs x) n (D.del (.int .i64 x)) s ∧ Chg (PMut pb wb mb lv rv) w w' ∧ (∀ c, rv'.ownBlock = some c → rv.ownBlock = some c) := by
  obtain ⟨sv, m⟩ := p
  obtain ⟨asv, nsv, csv, rfl⟩ := hp
  obtain ⟨g, cap, ex, rfl, hbg, hpg, hnc, hcm⟩ := own_split h.row (by rw [hx]; simp)
  have hb1 := (Below.refl w.heap.size w).alloc (Nat.le_refl _) (.cells #[.slice asv nsv csv, .int .i64 m.lane, .int .i64 m.stamp, .int .i64 m.late, .int .i64 m.seq] 37)
  have cx : w.cell? ⟨g, 0, none⟩ = some (.int .i64 x) := by rw [hpg.cell, hx]; rfl
  have hgl := hpg.lt
  obtain ⟨c0, c1, c2, c3, f2, f3, hpl⟩ := h.cells
  have hlen : (xs.length : Int) > 0 := by rw [hx]; simp only [List.length_cons]; omega
  have hlen' : 0 < xs.length := by rw [hx]; simp
  replace hx := hid hx
  unfold aggM
  simp only
  have hb2 := hb1.alloc (by simp) (.cells #[.int .i64 x] 3)
  have hP2 := h.below hb2
  have hz2 : IntsAt (fun b => ¬ PMut pb wb mb lv (.slice (some ⟨g, 0, none⟩) xs.length cap) b) ((w.alloc (.cells #[.slice asv nsv csv, .int .i64 m.lane, .int .i64 m.stamp, .int .i64 m.late, .int .i64 m.seq] 37)).alloc (.cells #[.int .i64 x] 3)) (.slice (some ⟨w.heap.size + 1, 0, none⟩) 1 1) [x] :=
    IntsAt.of_pts (xs := [x]) (ex := []) (T := 3) (heap_at _ _ _ (by simp)) (fun hm => by have := h.mut_lt hm; omega) (by simp) (by simp [maxLen])
  have h := hid h
  have hb1 := hid hb1
  have hb2 := hid hb2
  have hP2 := hid hP2
  have hz2 := hid hz2
  go_enter Try.func59, Try.ntmps59
  go_wp2_with (first | (go_at_call 73; (with_reducible refine (away_c hP2.out hz2.out (fun z hz => by simp at hz; subst hz; exact hxi)).mono ?_); rintro e w3 ⟨rfl, rv', hP3, hC3, hv3⟩; have hP3 := hid hP3; have hC3 := hid hC3; have hv3 := hid hv3))
  refine bodyPost_ret (v := .tuple #[.int .i64 x, .bool true, .int .i64 0]) (by simp [results, Try.results59, go_sem]) rfl ⟨rfl, rv', ?_, (Chg.of_below hb2.out).trans hC3.out (fun i hi => .inl hi), hv3.out⟩
  simpa using hP3.out
/-- There is no room. -/
theorem putFull_c (h : PortAt w base pb wb mb hold lv rv ps [] n D s) (p : Value × Msg) (hp : ∃ a n c, p.1 = .slice a n c) (hf : (ps.length : Int) = hold) :
    Calls Try.prog 59 #[.pointer (some ⟨pb, 0, none⟩), aggM p] w fun e w' => e = .returned (.tuple #[.int .i64 0, .bool false, .int .i64 10]) ∧ Below w.heap.size w w' := by
  obtain ⟨sv, m⟩ := p
  obtain ⟨asv, nsv, csv, rfl⟩ := hp
  obtain ⟨c0, c1, c2, c3, f2, f3, hpl⟩ := h.cells
  obtain ⟨al, cl, rfl⟩ := own_shape h.l
  obtain ⟨ar, cr, rfl⟩ := own_shape h.row
  subst hf
  simp only [List.length_nil] at *
  unfold aggM
  simp only
  have h := hid h
  go_enter Try.func59, Try.ntmps59
  go_wp2
  go_quiet (fail)
  go_wp2
  refine bodyPost_ret (v := .tuple #[.int .i64 0, .bool false, .int .i64 10]) (by simp [results, Try.results59, go_sem]) rfl ⟨rfl, ?_⟩
  exact ((Below.refl _ _).alloc (Nat.le_refl _) _).trans ⟨rfl, rfl, rfl, Nat.le_refl _, fun _ _ => rfl⟩
theorem drewN_below (B : Nat) (w : World) (k : Nat) : Below B w (w.drewN k) := ⟨rfl, rfl, rfl, Nat.le_refl _, fun _ _ => rfl⟩
/-- Behind append, and the messages' row stored. -/
theorem PortAt.putStep {w3 w5 : World} (h : PortAt w base pb wb mb hold lv rv ps xs n D s) (hb : Below w.heap.size w w3) {q : Value × Msg} (hq : IntsAt (fun b => w.heap.size ≤ b) w3 q.1 q.2.words) {lv' : Value} (hr : w5.ownsRow base 37 5 lv' (ps.length + 1) (flat encM ps ++ encM q)) (hg : w3.grownBy w5 lv.ownBlock) (hv : ∀ c, lv'.ownBlock = some c → lv.ownBlock = some c ∨ c = w3.heap.size) :
    PortAt (w5.setCell ⟨pb, 2, none⟩ lv') base pb wb mb hold lv' rv (ps ++ [q]) xs n D s ∧ Chg (PMut pb wb mb lv rv) w (w5.setCell ⟨pb, 2, none⟩ lv') ∧ IntsAt (fun b => w.heap.size ≤ b) (w5.setCell ⟨pb, 2, none⟩ lv') q.1 q.2.words := by
  obtain ⟨a1, a2, a3, a4, a5, a6⟩ := h.apart
  have e5 : ∀ b, b < w.heap.size → lv.ownBlock ≠ some b → w5.heap[b]? = w.heap[b]? := fun b hlt hne => (hg.block b (Nat.lt_of_lt_of_le hlt hb.size) (fun e => hne e.symm)).trans (hb.block b hlt)
  have hpl := h.at_.lt
  have hp5 : pts w5 pb [.pointer (some ⟨wb, 0, none⟩), .int .i64 hold, lv, rv] 70 := h.at_.of (e5 pb hpl (fun h => (a4 pb h).1 rfl))
  have hC : Chg (PMut pb wb mb lv rv) w w5 := ⟨hg.os.trans hb.os, hg.tape.trans hb.tape, hg.output.trans hb.output, Nat.le_trans hb.size hg.size, fun b hlt hn => e5 b hlt (fun e => hn (.inr (.inr (.inr (.inl e)))))⟩
  have hlv : ∀ c, lv'.ownBlock = some c → c ≠ pb := fun c hc => by
    rcases hv c hc with h1 | h1
    · exact (a4 c h1).1
    · have := hb.size; omega
  have hmut : ∀ b, b < w.heap.size → PMut pb wb mb lv' rv b → PMut pb wb mb lv rv b := fun b hlt hm => by
    rcases hm with hm | hm | hm | hm | hm
    · exact .inl hm
    · exact .inr (.inl hm)
    · exact .inr (.inr (.inl hm))
    · rcases hv b hm with h1 | h1
      · exact .inr (.inr (.inr (.inl h1)))
      · have := hb.size; omega
    · exact .inr (.inr (.inr (.inr hm)))
  have h5 : IntsAt (fun b => w.heap.size ≤ b ∧ b < w3.heap.size) w3 q.1 q.2.words := hq.mono (fun b h1 h2 => ⟨h1, h2⟩)
  have h6 := h5.kept (w' := w5.setCell ⟨pb, 2, none⟩ lv') (by simpa using hg.size) (fun b h1 h2 => by
    rw [Below.heap_setCell _ _ _ _ (fun e => by have e : b = pb := e; omega)]
    exact hg.block b h2 (fun e => by have := h.mut_lt (b := b) (.inr (.inr (.inr (.inl e.symm)))); omega))
  refine ⟨⟨by simpa using hp5.set 2 lv', ?_, ?_, ?_, ?_, h.ge⟩, hC.setB (.inl rfl), h6.mono (fun b h _ => h.1)⟩
  · refine (h.wh.kept (w' := w5) (e5 wb h.wh.lt.1 (fun h => (a4 wb h).2.1 rfl)) (e5 mb h.wh.lt.2 (fun h => (a4 mb h).2.2 rfl))).kept (Below.heap_setCell _ _ _ _ (Ne.symm a1)) (Below.heap_setCell _ _ _ _ (Ne.symm a2))
  · have h1 : w5.ownsRow base 37 5 lv' (ps ++ [q]).length (flat encM (ps ++ [q])) := by rw [flat_append, flat_single, List.length_append]; exact hr
    exact own_of h1 (fun b e => Below.heap_setCell _ _ _ _ (hlv b e))
  · exact own_of (own_of h.row (fun b e => e5 b (h.mut_lt (.inr (.inr (.inr (.inr e))))) (fun e2 => a6 b e2 e))) (fun b e => Below.heap_setCell _ _ _ _ (a5 b e).1)
  · refine WordsIn.snoc ?_ ?_
    · refine (h.words.kept (w' := w5.setCell ⟨pb, 2, none⟩ lv') (by simpa using hC.size) (fun b hb' hlt => ?_)).mono' (fun b hb' hlt hm => hb' (hmut b hlt hm)) h.words
      rw [Below.heap_setCell _ _ _ _ (fun e => hb' (.inl e))]
      exact hC.block b hlt hb'
    · refine h6.mono (fun b h1 _ hm => ?_)
      rcases hm with hm | hm | hm | hm | hm
      · omega
      · have := h.wh.lt.1; omega
      · have := h.wh.lt.2; omega
      · rcases hv b hm with h2 | h2
        · have := h.mut_lt (b := b) (.inr (.inr (.inr (.inl h2)))); omega
        · omega
      · have := h.mut_lt (b := b) (.inr (.inr (.inr (.inr hm)))); omega
/-- It is put in. -/
theorem putAdd_c (h : PortAt w base pb wb mb hold lv rv ps [] n D s) (p : Value × Msg) {okp : Nat → Prop} (hp : IntsAt okp w p.1 p.2.words) (hpl : p.2.words.length ≤ 17592186044416) (hf : (ps.length : Int) ≠ hold) (hsm : ps.length < 1000000) :
    Calls Try.prog 59 #[.pointer (some ⟨pb, 0, none⟩), aggM p] w fun e w' => e = .returned (.tuple #[.int .i64 0, .bool false, .int .i64 0]) ∧ ∃ lv' sv', PortAt w' base pb wb mb hold lv' rv (ps ++ [(sv', p.2)]) [] n D s ∧ Chg (PMut pb wb mb lv rv) w w' ∧ (∀ c, lv'.ownBlock = some c → lv.ownBlock = some c ∨ w.heap.size ≤ c) ∧ IntsAt (fun b => w.heap.size ≤ b) w' sv' p.2.words := by
  obtain ⟨sv, m⟩ := p
  simp only at hp hpl
  obtain ⟨asv, csv, rfl⟩ := hp.shape
  obtain ⟨c0, c1, c2, c3, f2, f3, hpl'⟩ := h.cells
  obtain ⟨al, cl, rfl⟩ := own_shape h.l
  obtain ⟨ar, cr, rfl⟩ := own_shape h.row
  simp only [List.length_nil] at *
  unfold aggM
  simp only
  have hf1 : ((ps.length : Int) == hold) = false := by simpa using hf
  have hb1 := (Below.refl w.heap.size w).alloc (Nat.le_refl _) (.cells #[.slice asv m.words.length csv, .int .i64 m.lane, .int .i64 m.stamp, .int .i64 m.late, .int .i64 m.seq] 37)
  have hq1 : pts (w.alloc (.cells #[.slice asv m.words.length csv, .int .i64 m.lane, .int .i64 m.stamp, .int .i64 m.late, .int .i64 m.seq] 37)) w.heap.size [.slice asv m.words.length csv, .int .i64 m.lane, .int .i64 m.stamp, .int .i64 m.late, .int .i64 m.seq] 37 := pts.newA w _ _
  have hP1 := h.below hb1
  have hi1 := hp.below hb1
  have h := hid h
  replace hf := hid hf
  go_enter Try.func59, Try.ntmps59
  go_wp2
  go_quiet (fail)
  go_upto_region 9 with fail
  generalize hWd : World.drewN _ _ = W
  have hPW : PortAt W base pb wb mb hold (.slice al ps.length cl) (.slice ar 0 cr) ps [] n D s := by rw [← hWd]; exact hP1.below (drewN_below _ _ _)
  have hqW : pts W w.heap.size [.slice asv m.words.length csv, .int .i64 m.lane, .int .i64 m.stamp, .int .i64 m.late, .int .i64 m.seq] 37 := by rw [← hWd]; exact hq1.below (drewN_below _ _ _)
  have hiW : IntsAt okp W.drew (.slice asv m.words.length csv) m.words := by rw [← hWd]; exact (hi1.below (drewN_below _ _ _)).below (Below.refl _ _).drew
  have hbW := hid (show Below w.heap.size w W by rw [← hWd]; exact hb1.trans (drewN_below _ _ _))
  clear hWd hb1 hq1 hP1 hi1 c0 c1 c2 c3 f2 f3 hpl'
  have hcl : Calls Try.prog 53 #[.agg #[.slice asv m.words.length csv, .int .i64 m.lane, .int .i64 m.stamp, .int .i64 m.late, .int .i64 m.seq]] W.drew fun e w' => ∃ v', e = .returned (.agg #[v', .int .i64 m.lane, .int .i64 m.stamp, .int .i64 m.late, .int .i64 m.seq]) ∧ IntsAt (fun b => W.drew.heap.size ≤ b) w' v' m.words ∧ Below W.drew.heap.size W.drew w' := mclone_c (p := (.slice asv m.words.length csv, m)) hiW hpl
  obtain ⟨c0, c1, c2, c3, f2, f3, hpl'⟩ := hPW.cells
  have m0 := hqW.cell 0
  have m1 := hqW.cell 1
  have m2 := hqW.cell 2
  have m3 := hqW.cell 3
  have m4 := hqW.cell 4
  simp only [List.getElem?_cons_zero, List.getElem?_cons_succ] at m0 m1 m2 m3 m4
  have hPd : PortAt W.drew base pb wb mb hold (.slice al ps.length cl) (.slice ar 0 cr) ps [] n D s := hPW.below (Below.refl _ _).drew
  have hPW := hid hPW
  have hPd := hid hPd
  have hcl := hid hcl
  have hbs := hid (show base ≤ W.heap.size from Nat.le_trans hPW.out.ge.1 (Nat.le_of_lt hpl'))
  clear hqW hiW
  go_region_law (first | (refine step_push rfl (.tmp 44) (.tmp 47) 41 rfl elMsg (v := .slice al ps.length cl) (by simp [Act.eval, Act.put]) (hl2.out.alloc _) (Nat.le_trans hbs.out (Nat.le_trans hz2.out (by simp))) (by simp [Act.eval, Act.put]) (g := w2.heap.size) (m := 1) (c := 1) (news := encM (.slice av m.words.length cv, m)) rfl (heap_at _ _ _ rfl) (by simp [encM, Value.oneCell']) (by omega) (by unfold maxLen; omega) (by omega) ?_; intro g' cap' w5 hown5 hg5 hor5 hlt5; have hS := hid (PortAt.putStep (q := (.slice av m.words.length cv, m)) hPd.out (hb2.out.alloc hz2.out (.cells #[.slice av m.words.length cv, .int .i64 m.lane, .int .i64 m.stamp, .int .i64 m.late, .int .i64 m.seq] 37)) (hi2.out.below ((Below.refl _ _).alloc (Nat.le_refl _) _)) hown5 hg5 (fun c hc => by simp only [Value.ownBlock, Option.some.injEq] at hc; subst hc; exact hor5)); have hold5 := hid (show ∀ c, (Value.slice (some ⟨g', 0, none⟩) (ps.length + 1) cap').ownBlock = some c → (Value.slice al ps.length cl).ownBlock = some c ∨ w.heap.size ≤ c from fun c hc => by simp only [Value.ownBlock, Option.some.injEq] at hc; subst hc; rcases hor5 with e | e; exact .inl e; exact .inr (by have h1 := hz2.out; have h2 := hbW.out.size; have h3 : W.heap.size ≤ w2.heap.size := h1; simp at e; omega)); have hp5 := pts.of (hp2.out.alloc _) (hg5.block pb (by simp; have := hp2.out.lt; omega) (fun e => (hPW.out.apart.2.2.2.1 pb e.symm).1 rfl)); have s2 := hp5.cell 2; have sf := hp5.frozen 2; have sl := hp5.lt; simp only [List.getElem?_cons_zero, List.getElem?_cons_succ] at s2; clear hown5 hg5 hp5) | (go_simp; go_at_call 53; (with_reducible refine hcl.out.mono ?_); rintro e w2 ⟨v', rfl, hi2, hb2⟩; obtain ⟨av, cv, rfl⟩ := hi2.shape; have hp2 := hPd.out.at_.below hb2; have c2' := hp2.cell 2; have cl' := hp2.lt; simp only [List.getElem?_cons_zero, List.getElem?_cons_succ] at c2'; have hl2 := hid ((hPd.out.below hb2).l); have hz2 := hid hb2.size; have hi2 := hid hi2; have hb2 := hid hb2; have hp2 := hid hp2))
  all_goals go_wp2
  all_goals refine bodyPost_ret (v := .tuple #[.int .i64 0, .bool false, .int .i64 0]) (by simp [results, Try.results59, go_sem]) rfl ⟨rfl, _, _, hS.out.1, (Chg.of_below hbW.out).trans (Chg.ofDrew hS.out.2.1) (fun i hi => .inl hi), hold5.out, hS.out.2.2.mono (fun b h _ => Nat.le_trans hbW.out.size h)⟩
end
end Go.Proofs.Ytggfallodkbgcaa.Qu

namespace Go.Proofs.Ytggfallodkbgcaa.Qu
set_option linter.unusedVariables false
set_option linter.unusedSimpArgs false
open Go.RowKit Go.Maps Go.Proofs.Ytggfallodkbgcaa.K Go.Proofs.Ytggfallodkbgcaa.Lb Go.Proofs.Ytggfallodkbgcaa.Wh
/-- A message that is nothing: its cells. -/
def zc5 : List Value := [.slice none 0 0, .int .i64 0, .int .i64 0, .int .i64 0, .int .i64 0]
theorem zc5_len : zc5.length = 5 := rfl
theorem zc5_one : ∀ v ∈ zc5, v.oneCell' = true := by simp [zc5, Value.oneCell']
theorem zc5_zero : (Builtin.zeroCells (Value.agg #[.slice none 0 0, .int .i64 0, .int .i64 0, .int .i64 0, .int .i64 0]).cells 1).toList = zc5 := by kernel_rfl
theorem elMsg' : ElemOk Try.prog 41 37 5 56 := .mk' (z := .agg #[.slice none 0 0, .int .i64 0, .int .i64 0, .int .i64 0, .int .i64 0]) Try.underlying41 (by kernel_rfl) rfl (by decide)
theorem pts.setCells {b : Nat} {T : TypeId} : ∀ (news : List Value) (o : Nat) (w : World) (cs : List Value), pts w b cs T → o + news.length ≤ cs.length → pts (w.setCells b o news) b (cs.take o ++ news ++ cs.drop (o + news.length)) T
  | [], o, w, cs, h, _ => by simpa [World.setCells] using h
  | v :: r, o, w, cs, h, hf => by
    simp only [List.length_cons] at hf
    have h1 := pts.setCells r (o + 1) (w.setCell ⟨b, o, none⟩ v) (cs.set o v) (h.set o v) (by simp; omega)
    have e : (cs.set o v).take (o + 1) ++ r ++ (cs.set o v).drop (o + 1 + r.length) = cs.take o ++ (v :: r) ++ cs.drop (o + (v :: r).length) := by
      rw [List.take_succ_eq_append_getElem (by simp; omega), List.take_set, List.set_eq_of_length_le (by simp; omega), List.drop_set_of_lt (by omega)]
      simp only [List.getElem_set_self, List.append_assoc, List.cons_append, List.nil_append, List.length_cons]
      congr 3
      congr 1
      omega
    rw [← e]
    exact h1
theorem Chg.setCells {M : Nat → Prop} {b : Nat} : ∀ (news : List Value) (o : Nat) (a w : World), Chg M a w → M b → Chg M a (w.setCells b o news)
  | [], _, _, _, h, _ => h
  | v :: r, o, a, w, h, hb => Chg.setCells r (o + 1) a _ (h.setB hb) hb
theorem zeroMsg (w : World) : (zeroValue 37).run Try.prog w = .ok (.agg #[.slice none 0 0, .int .i64 0, .int .i64 0, .int .i64 0, .int .i64 0]) w := by kernel_rfl
def DelMPost (w : World) (base : Nat) (v : Value) (r : List (Value × Msg)) (e : Ending) (w' : World) : Prop :=
  ∃ v', e = .returned v' ∧ w'.ownsRow base 37 5 v' r.length (flat encM r) ∧ Chg (fun c => v.ownBlock = some c) w w' ∧ (∀ c, v'.ownBlock = some c → v.ownBlock = some c)
set_option maxHeartbeats 1000000 in
theorem deleteM_c {w : World} {base : Nat} {v : Value} {p : Value × Msg} {r : List (Value × Msg)} (hown : w.ownsRow base 37 5 v (r.length + 1) (flat encM (p :: r))) (h1 : ∀ u ∈ flat encM r, u.oneCell' = true) :
    Calls Try.prog 44 #[v, .int .i64 0, .int .i64 1] w (DelMPost w base v r) := by
  obtain ⟨g, cap, ex, rfl, hbg, hp, hnc, hcm⟩ := own_split hown (by omega)
  have hsz : (flat encM (p :: r) ++ ex).length = cap * 5 := by
    rcases hown.2 with ⟨h, _⟩ | ⟨g', cap', cur, h1, _, hh, _, _, hcs, _⟩
    · cases h
    · simp only [Value.slice.injEq, Option.some.injEq, Addr.mk.injEq] at h1
      obtain ⟨⟨rfl, _, _⟩, _, rfl⟩ := h1
      unfold pts at hp
      rw [hp] at hh
      simp only [Option.some.injEq, Obj.cells.injEq] at hh
      rw [← hh.1] at hcs
      simpa using hcs
  have hfl : (flat encM r).length = r.length * 5 := flat_length encM_len r
  have hpd : pts w.drew g (flat encM (p :: r) ++ ex) 37 := hp.drew
  have hnews : ∀ j u, (flat encM r)[j]? = some u → w.drew.cell? ((⟨g, 5, none⟩ : Addr).add j) = some u := fun j u hu => by
    have e1 : (⟨g, 5, none⟩ : Addr).add j = ⟨g, 5 + j, none⟩ := by unfold Addr.add; split <;> simp_all
    rw [e1, hpd.cell, flat_cons, List.append_assoc, List.getElem?_append_right (by simp [encM]), show 5 + j - (encM p).length = j by simp [encM], List.getElem?_append_left (List.getElem?_eq_some_iff.1 hu).1]
    exact hu
  have hspare : ∀ j, j < (flat encM r).length → (w.drew.cell? ⟨g, 0 + 0 * 5 + j, none⟩).isSome = true ∧ w.drew.frozen? ⟨g, 0 + 0 * 5 + j, none⟩ = false := fun j hj => by
    refine ⟨?_, hpd.frozen _⟩
    rw [hpd.cell, List.getElem?_eq_getElem (by rw [hsz]; omega)]; rfl
  have hp2 := pts.setCells (flat encM r) (0 + 0 * 5) w.drew _ hpd (by rw [hsz]; omega)
  have hc2 := Chg.setCells (M := fun c => (Value.slice (some ⟨g, 0, none⟩) (r.length + 1) cap).ownBlock = some c) (flat encM r) (0 + 0 * 5) w w.drew (Chg.refl _ _).drew rfl
  generalize hWe : w.drew.setCells g (0 + 0 * 5) (flat encM r) = W2 at hp2 hc2
  simp only [Nat.zero_mul, Nat.add_zero, List.take_zero, List.nil_append, Nat.zero_add] at hp2
  have htl : ((flat encM (p :: r) ++ ex).drop (flat encM r).length).length = cap * 5 - r.length * 5 := by rw [List.length_drop, hsz, hfl]
  generalize (flat encM (p :: r) ++ ex).drop (flat encM r).length = tl at hp2 htl
  have hcl : ∀ ty, (Builtin.clear_ #[41] ty #[.slice (some ⟨g, r.length * 5, none⟩) 1 (cap - r.length)]).run Try.prog W2 = .ok (.tuple #[]) (W2.setRow g ((flat encM r ++ tl).take (r.length * 5) ++ zc5 ++ (flat encM r ++ tl).drop (r.length * 5 + 5)).toArray) :=
    fun ty => run_clear_row (P := Try.prog) (t := 41) (ty := ty) (n := 1) (c := cap - r.length) (zs := zc5) Try.underlying41 zeroMsg hp2 (o := r.length * 5) (by omega) zc5_zero zc5_one (by simp only [List.length_append, hfl, htl, zc5_len]; omega)
  have hfin : DelMPost w base (.slice (some ⟨g, 0, none⟩) (r.length + 1) cap) r (.returned (.slice (some ⟨g, 0, none⟩) r.length cap)) (W2.setRow g ((flat encM r ++ tl).take (r.length * 5) ++ zc5 ++ (flat encM r ++ tl).drop (r.length * 5 + 5)).toArray) := by
    refine ⟨_, rfl, ?_, hc2.setRow (.inl rfl) _, fun c h => h⟩
    refine ⟨hfl, .inr ⟨g, cap, _, rfl, hbg, hp2.setRow _, by omega, hcm, ?_, ?_⟩⟩
    · simp only [List.size_toArray, List.length_append, List.length_take, List.length_drop, hfl, htl, zc5_len]
      omega
    · simp only
      rw [List.append_assoc, List.take_append_of_le_length (by rw [List.length_take, List.length_append, hfl]; omega), List.take_take, Nat.min_self, List.take_append_of_le_length (by rw [hfl]; exact Nat.le_refl _), List.take_of_length_le (by rw [hfl]; exact Nat.le_refl _)]
  generalize W2.setRow g ((flat encM r ++ tl).take (r.length * 5) ++ zc5 ++ (flat encM r ++ tl).drop (r.length * 5 + 5)).toArray = W3 at hcl hfin
  obtain ⟨i, z, hi, hz0, hz1, hz2, hz3⟩ := elMsg'.i
  have hfin := hid hfin
  have hWe := hid hWe
  have hsz := hid hsz
  have htl := hid htl
  have hfl := hid hfl
  clear hp2 hc2 hp hown
  unfold maxLen at hcm
  have i1 : (1 : Int) ≤ (r.length : Int) + 1 := by omega
  have i2 : (1 : Int) ≤ (cap : Int) := by omega
  have i3 : 1 ≤ cap := by omega
  by_cases hc1 : cap = 1
  · obtain rfl : r = [] := List.eq_nil_of_length_eq_zero (by omega)
    subst hc1
    simp only [List.length_nil, Nat.zero_mul, Nat.sub_zero, Nat.zero_add] at hcl ⊢
    go_enter Try.func44, Try.ntmps44
    go_wp2
    go_region_law (first | (refine step_append_room rfl (.tmp 22) (.tmp 25) 41 rfl 37 i 5 Try.underlying41 hi hz1 g 0 0 1 (by simp [Act.eval, Act.put]) ⟨g, 0, none⟩ 0 0 (flat encM []) (by simp [Act.eval, Act.put]) hfl.out (fun j u hu => by simp [flat] at hu) h1 (by omega) hspare ?_; rw [hWe.out]))
    all_goals go_wp2_with (at_builtin; refine wpList_clear_run rfl (.tmp 31) 41 rfl rfl (hcl _) ?_)
    all_goals go_ret
    all_goals exact hfin.out
  · have hc2 : (cap == 1) = false := by simpa using hc1
    go_enter Try.func44, Try.ntmps44
    go_wp2
    go_region_law (first | (refine step_append_room rfl (.tmp 22) (.tmp 25) 41 rfl 37 i 5 Try.underlying41 hi hz1 g 0 0 cap (by simp [Act.eval, Act.put]) ⟨g, 5, none⟩ r.length (cap - 1) (flat encM r) (by simp [Act.eval, Act.put, hc1]) hfl.out hnews h1 (by omega) hspare ?_; rw [hWe.out]))
    all_goals go_wp2_with (at_builtin; refine wpList_clear_run rfl (.tmp 31) 41 rfl rfl (hcl _) ?_)
    all_goals go_ret
    all_goals exact hfin.out
end Go.Proofs.Ytggfallodkbgcaa.Qu

namespace Go.Proofs.Ytggfallodkbgcaa.Qu
set_option linter.unusedVariables false
set_option linter.unusedSimpArgs false
open Go.RowKit Go.Maps Go.Proofs.Ytggfallodkbgcaa.K Go.Proofs.Ytggfallodkbgcaa.Lb Go.Proofs.Ytggfallodkbgcaa.Wh
/-- A message that is nothing. -/
def zm : Value × Msg := (.slice none 0 0, ⟨[], 0, 0, 0, 0⟩)
section
variable {w : World} {base pb wb mb : Nat} {hold : Int} {lv rv : Value} {ps : List (Value × Msg)} {xs : List Int} {n : Nat} {D : DataW Unit} {s : Int}
theorem askWaits_c (h : PortAt w base pb wb mb hold lv rv ps xs n D s) {x : Int} (u now : Int) (hx : x ∈ xs) :
    Calls Try.prog 22 #[.pointer (some ⟨pb, 0, none⟩), .int .i64 x, .int .i64 u, .int .i64 now] w fun e w' => e = .returned (.tuple #[aggM zm, .int .i64 1]) ∧ Below w.heap.size w w' := by
  have hb1 := (Below.refl w.heap.size w).alloc (Nat.le_refl _) (.cells #[.slice none 0 0, .int .i64 0, .int .i64 0, .int .i64 0, .int .i64 0] 37)
  have hP1 := h.below hb1
  have hin := hid (show decide (x ∈ xs) = true by simpa using hx)
  have h := hid h
  unfold aggM zm
  simp only
  go_enter Try.func22, Try.ntmps22
  go_wp2_with (first | (go_at_call 43; (with_reducible refine (waits_c hP1 x).mono ?_); rw [hin.out]; rintro e w' ⟨rfl, rfl⟩))
  refine bodyPost_ret (v := .tuple #[.agg #[.slice none 0 0, .int .i64 0, .int .i64 0, .int .i64 0, .int .i64 0], .int .i64 1]) (by simp [results, Try.results22, go_sem]) rfl ⟨rfl, ?_⟩
  exact hb1
/-- A port anew, out of its parts behind a call; its messages are among those that were. -/
theorem PortAt.anew {F : World} (h : PortAt w base pb wb mb hold lv rv ps xs n D s) {lv' rv' : Value} {ps' : List (Value × Msg)} {xs' : List Int} {n' : Nat} {D' : DataW Unit} {s' : Int} (hC : Chg (PMut pb wb mb lv rv) w F) (hat : pts F pb [.pointer (some ⟨wb, 0, none⟩), .int .i64 hold, lv', rv'] 70) (hw : WheelAt F wb mb n' D' s')
    (hl : F.ownsRow base 37 5 lv' ps'.length (flat encM ps')) (hr : F.ownsRow base 3 1 rv' xs'.length (xs'.map (Value.int .i64))) (hsub : ∀ p ∈ ps', p ∈ ps) (hlv : ∀ c, lv'.ownBlock = some c → lv.ownBlock = some c ∨ w.heap.size ≤ c) (hrv : ∀ c, rv'.ownBlock = some c → rv.ownBlock = some c ∨ w.heap.size ≤ c) :
    PortAt F base pb wb mb hold lv' rv' ps' xs' n' D' s' := by
  refine ⟨hat, hw, hl, hr, ?_, h.ge⟩
  have h0 := h.words.sub hsub
  refine (h0.kept hC.size (fun b hb hlt => hC.block b hlt hb)).mono' (fun b hb hlt hm => hb ?_) h0
  rcases hm with hm | hm | hm | hm | hm
  · exact .inl hm
  · exact .inr (.inl hm)
  · exact .inr (.inr (.inl hm))
  · rcases hlv b hm with h1 | h1
    · exact .inr (.inr (.inr (.inl h1)))
    · omega
  · rcases hrv b hm with h1 | h1
    · exact .inr (.inr (.inr (.inr h1)))
    · omega
theorem askLate_c (h : PortAt w base pb wb mb hold lv rv [] xs n D s) {x : Int} (u now : Int) (hx : x ∉ xs) (hlate : lateT now u = true) :
    Calls Try.prog 22 #[.pointer (some ⟨pb, 0, none⟩), .int .i64 x, .int .i64 u, .int .i64 now] w fun e w' => e = .returned (.tuple #[aggM zm, .int .i64 2]) ∧ Below w.heap.size w w' := by
  have hb1 := (Below.refl w.heap.size w).alloc (Nat.le_refl _) (.cells #[.slice none 0 0, .int .i64 0, .int .i64 0, .int .i64 0, .int .i64 0] 37)
  have hP1 := h.below hb1
  obtain ⟨c0, c1, c2, c3, f2, f3, hpl'⟩ := hP1.cells
  obtain ⟨al, cl, rfl⟩ := own_shape h.l
  have hin := hid (show decide (x ∈ xs) = false by simpa using hx)
  have hlate := hid hlate
  have h := hid h
  have hP1 := hid hP1
  simp only [List.length_nil] at *
  unfold aggM zm
  simp only
  go_enter Try.func22, Try.ntmps22
  go_wp2_with (first | (go_at_call 43; (with_reducible refine (waits_c hP1.out x).mono ?_); rw [hin.out]; rintro e w' ⟨rfl, rfl⟩) | (go_at_call 40; (with_reducible refine (late_c _ now u).mono ?_); rw [hlate.out]; rintro e w' ⟨rfl, rfl⟩))
  refine bodyPost_ret (v := .tuple #[.agg #[.slice none 0 0, .int .i64 0, .int .i64 0, .int .i64 0, .int .i64 0], .int .i64 2]) (by simp [results, Try.results22, go_sem]) rfl ⟨rfl, hb1⟩
theorem askHas_c {p : Value × Msg} {r : List (Value × Msg)} (h : PortAt w base pb wb mb hold lv rv (p :: r) [] n D s) (x u now : Int) :
    Calls Try.prog 22 #[.pointer (some ⟨pb, 0, none⟩), .int .i64 x, .int .i64 u, .int .i64 now] w fun e w' => e = .returned (.tuple #[aggM p, .int .i64 0]) ∧ ∃ lv', PortAt w' base pb wb mb hold lv' rv r [] n D s ∧ Chg (PMut pb wb mb lv rv) w w' ∧ IntsAt (fun b => ¬ PMut pb wb mb lv rv b) w p.1 p.2.words ∧ (∀ c, lv'.ownBlock = some c → lv.ownBlock = some c) := by
  have hwp := h.words p (by simp)
  obtain ⟨asv, csv, hsv⟩ := hwp.shape
  obtain ⟨sv, m⟩ := p
  simp only at hsv hwp
  subst hsv
  have hone := (h.words.sub (qs := r) (fun p hp => by simp [hp])).one
  have hap := hid h.apart
  obtain ⟨gl, cl, ex, rfl, hbg, hpg, hnc, hcm⟩ := own_split h.l (by simp)
  obtain ⟨ar, cr, rfl⟩ := own_shape h.row
  have hb1 := (Below.refl w.heap.size w).alloc (Nat.le_refl _) (.cells #[.slice none 0 0, .int .i64 0, .int .i64 0, .int .i64 0, .int .i64 0] 37)
  have hP1 := h.below hb1
  have hin := hid (show decide (x ∈ ([] : List Int)) = false by simp)
  obtain ⟨c0, c1, c2, c3, f2, f3, hpl'⟩ := h.cells
  have hgl := hpg.lt
  have g0 := hpg.cell 0
  have g1 := hpg.cell 1
  have g2 := hpg.cell 2
  have g3 := hpg.cell 3
  have g4 := hpg.cell 4
  rw [flat_cons] at g0 g1 g2 g3 g4
  simp only [encM, List.cons_append, List.getElem?_cons_zero, List.getElem?_cons_succ] at g0 g1 g2 g3 g4
  have hl1 : (0 : Int) < (r.length : Int) + 1 := by omega
  simp only [List.length_cons, List.length_nil] at *
  unfold aggM
  simp only
  have hb2 := hb1.alloc (by simp) (.cells #[.slice asv m.words.length csv, .int .i64 m.lane, .int .i64 m.stamp, .int .i64 m.late, .int .i64 m.seq] 37)
  have hP2 := h.below hb2
  have hz2 : pts ((w.alloc (.cells #[.slice none 0 0, .int .i64 0, .int .i64 0, .int .i64 0, .int .i64 0] 37)).alloc (.cells #[.slice asv m.words.length csv, .int .i64 m.lane, .int .i64 m.stamp, .int .i64 m.late, .int .i64 m.seq] 37)) w.heap.size [.slice none 0 0, .int .i64 0, .int .i64 0, .int .i64 0, .int .i64 0] 37 := (pts.newA w _ _).alloc _
  have hm2 : pts ((w.alloc (.cells #[.slice none 0 0, .int .i64 0, .int .i64 0, .int .i64 0, .int .i64 0] 37)).alloc (.cells #[.slice asv m.words.length csv, .int .i64 m.lane, .int .i64 m.stamp, .int .i64 m.late, .int .i64 m.seq] 37)) (w.heap.size + 1) [.slice asv m.words.length csv, .int .i64 m.lane, .int .i64 m.stamp, .int .i64 m.late, .int .i64 m.seq] 37 := heap_at _ _ _ (by simp)
  have hne : ∀ c, (Value.slice (some ⟨gl, 0, none⟩) (r.length + 1) cl).ownBlock = some c → c = gl := fun c hc => by simp only [Value.ownBlock, Option.some.injEq] at hc; exact hc.symm
  have hz := hid (show ∀ w3, Chg (fun c => (Value.slice (some ⟨gl, 0, none⟩) (r.length + 1) cl).ownBlock = some c) ((w.alloc (.cells #[.slice none 0 0, .int .i64 0, .int .i64 0, .int .i64 0, .int .i64 0] 37)).alloc (.cells #[.slice asv m.words.length csv, .int .i64 m.lane, .int .i64 m.stamp, .int .i64 m.late, .int .i64 m.seq] 37)) w3 → pts w3 w.heap.size [.slice none 0 0, .int .i64 0, .int .i64 0, .int .i64 0, .int .i64 0] 37 ∧ pts w3 (w.heap.size + 1) [.slice asv m.words.length csv, .int .i64 m.lane, .int .i64 m.stamp, .int .i64 m.late, .int .i64 m.seq] 37 ∧ pts w3 pb [.pointer (some ⟨wb, 0, none⟩), .int .i64 hold, .slice (some ⟨gl, 0, none⟩) (r.length + 1) cl, .slice ar 0 cr] 70 from
    fun w3 hc => ⟨hz2.chg hc (fun e => by have := hne _ e; omega), hm2.chg hc (fun e => by have := hne _ e; omega), hP2.at_.chg hc (fun e => (hap.out.2.2.2.1 pb e).1 rfl)⟩)
  clear hz2 hm2
  have h := hid h
  have hb1 := hid hb1
  have hb2 := hid hb2
  have hP1 := hid hP1
  have hP2 := hid hP2
  have hpg := hid hpg
  have hwp := hid hwp
  have hrb : w.heap.size ≠ pb := by omega
  have hrb' : pb ≠ w.heap.size := by omega
  have hrm : w.heap.size + 1 ≠ pb := by omega
  have hrm' : pb ≠ w.heap.size + 1 := by omega
  go_enter Try.func22, Try.ntmps22
  go_wp2_with (first | (go_at_call 43; (with_reducible refine (waits_c hP1.out x).mono ?_); rw [hin.out]; rintro e w' ⟨rfl, rfl⟩) | (go_at_call 44; (with_reducible refine (deleteM_c hP2.out.l hone).mono ?_); rintro e w3 ⟨v', rfl, hr3, hc3, hv3⟩; obtain ⟨av, cv, rfl⟩ := own_shape hr3; obtain ⟨z3, m3, p3⟩ := hz.out w3 hc3; have q0 := m3.cell 0; have q1 := m3.cell 1; have q2 := m3.cell 2; have q3 := m3.cell 3; have q4 := m3.cell 4; have y0 := z3.cell 0; have y1 := z3.cell 1; have y2 := z3.cell 2; have y3 := z3.cell 3; have y4 := z3.cell 4; have k0 := z3.frozen 0; have k1 := z3.frozen 1; have k2 := z3.frozen 2; have k3 := z3.frozen 3; have k4 := z3.frozen 4; have s2 := p3.cell 2; have sf := p3.frozen 2; have zl := z3.lt; have ml := m3.lt; have pl := p3.lt; simp only [List.getElem?_cons_zero, List.getElem?_cons_succ] at q0 q1 q2 q3 q4 y0 y1 y2 y3 y4 s2; have z3 := hid z3; have m3 := hid m3; have p3 := hid p3; have hr3 := hid hr3; have hc3 := hid hc3; have hv3 := hid hv3))
  have hC0 : Chg (fun c => c = pb ∨ (Value.slice (some ⟨gl, 0, none⟩) (r.length + 1) cl).ownBlock = some c) w w3 := ((Chg.of_below hb2.out).trans hc3.out (fun i hi => .inl (.inr hi)))
  have hCF : Chg (fun c => c = pb ∨ (Value.slice (some ⟨gl, 0, none⟩) (r.length + 1) cl).ownBlock = some c) w ((((((w3.setCell ⟨pb, 2, none⟩ (.slice av r.length cv)).setCell ⟨w.heap.size, 0, none⟩ (.slice asv m.words.length csv)).setCell ⟨w.heap.size, 1, none⟩ (.int .i64 m.lane)).setCell ⟨w.heap.size, 2, none⟩ (.int .i64 m.stamp)).setCell ⟨w.heap.size, 3, none⟩ (.int .i64 m.late)).setCell ⟨w.heap.size, 4, none⟩ (.int .i64 m.seq)) := (((((hC0.setB (.inl rfl)).setN (Nat.le_refl _)).setN (Nat.le_refl _)).setN (Nat.le_refl _)).setN (Nat.le_refl _)).setN (Nat.le_refl _)
  have hpF : pts ((((((w3.setCell ⟨pb, 2, none⟩ (.slice av r.length cv)).setCell ⟨w.heap.size, 0, none⟩ (.slice asv m.words.length csv)).setCell ⟨w.heap.size, 1, none⟩ (.int .i64 m.lane)).setCell ⟨w.heap.size, 2, none⟩ (.int .i64 m.stamp)).setCell ⟨w.heap.size, 3, none⟩ (.int .i64 m.late)).setCell ⟨w.heap.size, 4, none⟩ (.int .i64 m.seq)) pb [.pointer (some ⟨wb, 0, none⟩), .int .i64 hold, .slice av r.length cv, .slice ar 0 cr] 70 := (((((p3.out.set 2 (.slice av r.length cv)).set_ne (a := ⟨w.heap.size, 0, none⟩) hrb' _).set_ne (a := ⟨w.heap.size, 1, none⟩) hrb' _).set_ne (a := ⟨w.heap.size, 2, none⟩) hrb' _).set_ne (a := ⟨w.heap.size, 3, none⟩) hrb' _).set_ne (a := ⟨w.heap.size, 4, none⟩) hrb' _
  have hrF : ((((((w3.setCell ⟨pb, 2, none⟩ (.slice av r.length cv)).setCell ⟨w.heap.size, 0, none⟩ (.slice asv m.words.length csv)).setCell ⟨w.heap.size, 1, none⟩ (.int .i64 m.lane)).setCell ⟨w.heap.size, 2, none⟩ (.int .i64 m.stamp)).setCell ⟨w.heap.size, 3, none⟩ (.int .i64 m.late)).setCell ⟨w.heap.size, 4, none⟩ (.int .i64 m.seq)).ownsRow base 37 5 (.slice av r.length cv) r.length (flat encM r) := own_of hr3.out (fun b e => by
    have hb : b = gl := hne _ (hv3.out b e)
    have h1 : b ≠ pb := fun e2 => (hap.out.2.2.2.1 b (by rw [hb]; rfl)).1 e2
    have h2 : b ≠ w.heap.size := by omega
    rw [Below.heap_setCell _ _ _ _ h2, Below.heap_setCell _ _ _ _ h2, Below.heap_setCell _ _ _ _ h2, Below.heap_setCell _ _ _ _ h2, Below.heap_setCell _ _ _ _ h2, Below.heap_setCell _ _ _ _ h1])
  have hwF := h.out.wh.chg hCF (fun e => by rcases e with e | e; exact hap.out.1 e.symm; exact (hap.out.2.2.2.1 _ e).2.1 rfl) (fun e => by rcases e with e | e; exact hap.out.2.1 e.symm; exact (hap.out.2.2.2.1 _ e).2.2 rfl)
  have hxF := own_of h.out.row (fun b e => hCF.block b (h.out.mut_lt (.inr (.inr (.inr (.inr e))))) (fun e2 => by rcases e2 with e2 | e2; exact (hap.out.2.2.2.2.1 b e).1 e2; exact hap.out.2.2.2.2.2 b e2 e))
  have hM : Chg (PMut pb wb mb (Value.slice (some ⟨gl, 0, none⟩) (r.length + 1) cl) (.slice ar 0 cr)) w ((((((w3.setCell ⟨pb, 2, none⟩ (.slice av r.length cv)).setCell ⟨w.heap.size, 0, none⟩ (.slice asv m.words.length csv)).setCell ⟨w.heap.size, 1, none⟩ (.int .i64 m.lane)).setCell ⟨w.heap.size, 2, none⟩ (.int .i64 m.stamp)).setCell ⟨w.heap.size, 3, none⟩ (.int .i64 m.late)).setCell ⟨w.heap.size, 4, none⟩ (.int .i64 m.seq)) := hCF.mono (fun i hi => by rcases hi with hi | hi; exact .inl hi; exact .inr (.inr (.inr (.inl hi))))
  have hfin := hid (PortAt.anew h.out hM hpF hwF hrF hxF (fun p hp => List.mem_cons_of_mem _ hp) (fun c hc => .inl (hv3.out c hc)) (fun c hc => .inl hc))
  have hM := hid hM
  refine bodyPost_ret (v := .tuple #[.agg #[.slice asv m.words.length csv, .int .i64 m.lane, .int .i64 m.stamp, .int .i64 m.late, .int .i64 m.seq], .int .i64 0]) (by simp [results, Try.results22, go_sem, q0, q1, q2, q3, q4, y0, y1, y2, y3, y4, hrb, hrb', zl]) rfl ⟨rfl, _, hfin.out, hM.out, hwp.out, hv3.out⟩
set_option maxHeartbeats 1000000 in
theorem askAdd_c (h : PortAt w base pb wb mb hold lv rv [] xs n D s) {x : Int} (u now : Int) (hx : x ∉ xs) (hxi : isInt x) (hlate : lateT now u = false) (hn : n < 1000000) (hxl : xs.length < 1000000) :
    Calls Try.prog 22 #[.pointer (some ⟨pb, 0, none⟩), .int .i64 x, .int .i64 u, .int .i64 now] w fun e w' => e = .returned (.tuple #[aggM zm, .int .i64 6]) ∧ ∃ rv', PortAt w' base pb wb mb hold lv rv' [] (xs ++ [x]) (n + 1) (D.put (.int .i64 x) (waitD (cutT u) (wrap64 (s + 1)))) (wrap64 (s + 1)) ∧ Chg (PMut pb wb mb lv rv) w w' ∧ (∀ c, rv'.ownBlock = some c → rv.ownBlock = some c ∨ w.heap.size ≤ c) := by
  have hap := hid h.apart
  have hb1 := (Below.refl w.heap.size w).alloc (Nat.le_refl _) (.cells #[.slice none 0 0, .int .i64 0, .int .i64 0, .int .i64 0, .int .i64 0] 37)
  have hP1 := h.below hb1
  have hz1 : pts (w.alloc (.cells #[.slice none 0 0, .int .i64 0, .int .i64 0, .int .i64 0, .int .i64 0] 37)) w.heap.size [.slice none 0 0, .int .i64 0, .int .i64 0, .int .i64 0, .int .i64 0] 37 := pts.newA w _ _
  obtain ⟨c0, c1, c2, c3, f2, f3, hpl'⟩ := hP1.cells
  obtain ⟨al, cl, rfl⟩ := own_shape h.l
  obtain ⟨ar, cr, rfl⟩ := own_shape h.row
  have hin := hid (show decide (x ∈ xs) = false by simpa using hx)
  replace hlate := hid hlate
  have hwm := hid (fun b (e : WM wb mb b) => show b < w.heap.size from by rcases e with e | e; exact e ▸ h.wh.lt.1; exact e ▸ h.wh.lt.2)
  have hbs := hid (show base ≤ w.heap.size from Nat.le_trans h.ge.1 (Nat.le_of_lt h.at_.lt))
  have hrl := hid (fun b (e : (Value.slice ar xs.length cr).ownBlock = some b) => h.mut_lt (b := b) (.inr (.inr (.inr (.inr e)))))
  have hpl0 := hid h.at_.lt
  have hrb : w.heap.size ≠ pb := by have := h.at_.lt; omega
  have hrb' : pb ≠ w.heap.size := by have := h.at_.lt; omega
  have h := hid h
  have hP1 := hid hP1
  have hb1 := hid hb1
  have hz1 := hid hz1
  simp only [List.length_nil] at *
  unfold aggM zm
  simp only
  go_enter Try.func22, Try.ntmps22
  go_wp2_with (first | (go_at_call 43; (with_reducible refine (waits_c hP1.out x).mono ?_); rw [hin.out]; rintro e w' ⟨rfl, rfl⟩) | (go_at_call 40; (with_reducible refine (late_c _ now u).mono ?_); rw [hlate.out]; rintro e w' ⟨rfl, rfl⟩) | (go_at_call 45; (with_reducible refine (set_c hP1.out.wh hn hxi u).mono ?_); rintro e w2 ⟨rfl, hw2, hc2⟩; have p2 := hP1.out.at_.chg hc2 (fun e => by rcases e with e | e; exact hap.out.1 e; exact hap.out.2.1 e); have z2 := hz1.out.chg hc2 (fun e => by have := hwm.out _ e; omega); have r2 := own_of hP1.out.row (fun b e => hc2.block b (by have := hrl.out b e; simp; omega) (fun e2 => by rcases e2 with e2 | e2; exact (hap.out.2.2.2.2.1 b e).2.1 e2; exact (hap.out.2.2.2.2.1 b e).2.2 e2)); have s3 := p2.cell 3; have sl := p2.lt; have zl := z2.lt; simp only [List.getElem?_cons_zero, List.getElem?_cons_succ] at s3; have p2 := hid p2; have z2 := hid z2; have r2 := hid r2; have hw2 := hid hw2; have hc2 := hid hc2) | (at_builtin; (refine wpList_push2 rfl (.tmp 58) (.tmp 60) 35 rfl elInt rfl (r2.out.alloc _) (Nat.le_trans hbs.out (by have := hc2.out.size; simp at this ⊢; omega)) rfl (news := [.int .i64 x]) rfl (heap_at _ _ _ rfl) (by simp [Value.oneCell']) (by omega) (by unfold maxLen; omega) (by omega) ?_; intro g' cap' w5 hown5 hg5 hor5 hlt5; have p5 := (p2.out.alloc _).of (hg5.block pb (by simp; omega) (fun e => (hap.out.2.2.2.2.1 pb e.symm).1 rfl)); have z5 := (z2.out.alloc _).of (hg5.block w.heap.size (by simp; omega) (fun e => by have := hrl.out _ e.symm; omega)); have y0 := z5.cell 0; have y1 := z5.cell 1; have y2 := z5.cell 2; have y3 := z5.cell 3; have y4 := z5.cell 4; have k0 := z5.frozen 0; have k1 := z5.frozen 1; have k2 := z5.frozen 2; have k3 := z5.frozen 3; have k4 := z5.frozen 4; have s5 := p5.cell 3; have sf5 := p5.frozen 3; have zl5 := z5.lt; have pl5 := p5.lt; simp only [List.getElem?_cons_zero, List.getElem?_cons_succ] at y0 y1 y2 y3 y4 s5; have p5 := hid p5; have z5 := hid z5; have hown5 := hid hown5; have hg5 := hid hg5; have hor5 := hid hor5)))
  have hR : (Value.slice ar xs.length cr).ownBlock = (Value.slice ar xs.length cr).ownBlock := rfl
  have hC5 : Chg (fun c => c = pb ∨ WM wb mb c ∨ (Value.slice ar xs.length cr).ownBlock = some c) w w5 :=
    (((Chg.of_below hb1.out).trans hc2.out (fun i hi => .inl (.inr (.inl hi)))).alloc (.cells #[.int .i64 x] 3)).trans (M' := fun c => (Value.slice ar xs.length cr).ownBlock = some c) ⟨hg5.out.os, hg5.out.tape, hg5.out.output, hg5.out.size, fun k hk hn => hg5.out.block k hk (fun e => hn e.symm)⟩ (fun i hi => .inl (.inr (.inr hi)))
  have hCF : Chg (fun c => c = pb ∨ WM wb mb c ∨ (Value.slice ar xs.length cr).ownBlock = some c) w ((((((w5.setCell ⟨pb, 3, none⟩ (.slice (some ⟨g', 0, none⟩) (xs.length + 1) cap')).setCell ⟨w.heap.size, 0, none⟩ (.slice none 0 0)).setCell ⟨w.heap.size, 1, none⟩ (.int .i64 0)).setCell ⟨w.heap.size, 2, none⟩ (.int .i64 0)).setCell ⟨w.heap.size, 3, none⟩ (.int .i64 0)).setCell ⟨w.heap.size, 4, none⟩ (.int .i64 0)) := (((((hC5.setB (.inl rfl)).setN (Nat.le_refl _)).setN (Nat.le_refl _)).setN (Nat.le_refl _)).setN (Nat.le_refl _)).setN (Nat.le_refl _)
  have hpF : pts ((((((w5.setCell ⟨pb, 3, none⟩ (.slice (some ⟨g', 0, none⟩) (xs.length + 1) cap')).setCell ⟨w.heap.size, 0, none⟩ (.slice none 0 0)).setCell ⟨w.heap.size, 1, none⟩ (.int .i64 0)).setCell ⟨w.heap.size, 2, none⟩ (.int .i64 0)).setCell ⟨w.heap.size, 3, none⟩ (.int .i64 0)).setCell ⟨w.heap.size, 4, none⟩ (.int .i64 0)) pb [.pointer (some ⟨wb, 0, none⟩), .int .i64 hold, .slice al 0 cl, .slice (some ⟨g', 0, none⟩) (xs.length + 1) cap'] 70 := (((((p5.out.set 3 (.slice (some ⟨g', 0, none⟩) (xs.length + 1) cap')).set_ne (a := ⟨w.heap.size, 0, none⟩) hrb' _).set_ne (a := ⟨w.heap.size, 1, none⟩) hrb' _).set_ne (a := ⟨w.heap.size, 2, none⟩) hrb' _).set_ne (a := ⟨w.heap.size, 3, none⟩) hrb' _).set_ne (a := ⟨w.heap.size, 4, none⟩) hrb' _
  have hgs : w.heap.size < (w2.alloc (.cells #[.int .i64 x] 3)).heap.size := by have := z2.out.lt; simp; omega
  have keepF : ∀ b, b ≠ pb → b ≠ w.heap.size → ((((((w5.setCell ⟨pb, 3, none⟩ (.slice (some ⟨g', 0, none⟩) (xs.length + 1) cap')).setCell ⟨w.heap.size, 0, none⟩ (.slice none 0 0)).setCell ⟨w.heap.size, 1, none⟩ (.int .i64 0)).setCell ⟨w.heap.size, 2, none⟩ (.int .i64 0)).setCell ⟨w.heap.size, 3, none⟩ (.int .i64 0)).setCell ⟨w.heap.size, 4, none⟩ (.int .i64 0)).heap[b]? = w5.heap[b]? := fun b h1 h2 => by
    rw [Below.heap_setCell _ _ _ _ h2, Below.heap_setCell _ _ _ _ h2, Below.heap_setCell _ _ _ _ h2, Below.heap_setCell _ _ _ _ h2, Below.heap_setCell _ _ _ _ h2, Below.heap_setCell _ _ _ _ h1]
  have hg1 : g' ≠ pb ∧ g' ≠ w.heap.size := by
    rcases hor5.out with e | e
    · exact ⟨(hap.out.2.2.2.2.1 g' e).1, by have := hrl.out g' e; omega⟩
    · have := hpl0.out; exact ⟨by omega, by omega⟩
  have hrF : ((((((w5.setCell ⟨pb, 3, none⟩ (.slice (some ⟨g', 0, none⟩) (xs.length + 1) cap')).setCell ⟨w.heap.size, 0, none⟩ (.slice none 0 0)).setCell ⟨w.heap.size, 1, none⟩ (.int .i64 0)).setCell ⟨w.heap.size, 2, none⟩ (.int .i64 0)).setCell ⟨w.heap.size, 3, none⟩ (.int .i64 0)).setCell ⟨w.heap.size, 4, none⟩ (.int .i64 0)).ownsRow base 3 1 (.slice (some ⟨g', 0, none⟩) (xs.length + 1) cap') (xs ++ [x]).length ((xs ++ [x]).map (Value.int .i64)) := by
    have h0 : w5.ownsRow base 3 1 (.slice (some ⟨g', 0, none⟩) (xs.length + 1) cap') (xs ++ [x]).length ((xs ++ [x]).map (Value.int .i64)) := by rw [List.length_append, List.map_append]; exact hown5.out
    exact own_of h0 (fun b e => by
      have hb : b = g' := by simp only [Value.ownBlock, Option.some.injEq] at e; exact e.symm
      exact keepF b (hb ▸ hg1.1) (hb ▸ hg1.2))
  have w5keep : ∀ b, WM wb mb b → ((((((w5.setCell ⟨pb, 3, none⟩ (.slice (some ⟨g', 0, none⟩) (xs.length + 1) cap')).setCell ⟨w.heap.size, 0, none⟩ (.slice none 0 0)).setCell ⟨w.heap.size, 1, none⟩ (.int .i64 0)).setCell ⟨w.heap.size, 2, none⟩ (.int .i64 0)).setCell ⟨w.heap.size, 3, none⟩ (.int .i64 0)).setCell ⟨w.heap.size, 4, none⟩ (.int .i64 0)).heap[b]? = w2.heap[b]? := fun b e => by
    have hlt := hwm.out b e
    have h1 : b ≠ pb := fun e2 => by rcases e with e | e; exact hap.out.1 (e2 ▸ e); exact hap.out.2.1 (e2 ▸ e)
    rw [keepF b h1 (by omega)]
    have h2 := hg5.out.block b (by omega) (fun e2 => by rcases e with e | e; exact (hap.out.2.2.2.2.1 b e2.symm).2.1 e; exact (hap.out.2.2.2.2.1 b e2.symm).2.2 e)
    rw [h2, Below.heap_alloc _ _ _ (by have := z2.out.lt; omega)]
  have hwF := hw2.out.kept (w5keep wb (.inl rfl)) (w5keep mb (.inr rfl))
  have hlF := own_of h.out.l (fun b e => hCF.block b (h.out.mut_lt (.inr (.inr (.inr (.inl e))))) (fun e2 => by rcases e2 with e2 | e2 | e2; exact (hap.out.2.2.2.1 b e).1 e2; (rcases e2 with e2 | e2; exact (hap.out.2.2.2.1 b e).2.1 e2; exact (hap.out.2.2.2.1 b e).2.2 e2); exact hap.out.2.2.2.2.2 b e e2))
  have hM : Chg (PMut pb wb mb (.slice al 0 cl) (Value.slice ar xs.length cr)) w ((((((w5.setCell ⟨pb, 3, none⟩ (.slice (some ⟨g', 0, none⟩) (xs.length + 1) cap')).setCell ⟨w.heap.size, 0, none⟩ (.slice none 0 0)).setCell ⟨w.heap.size, 1, none⟩ (.int .i64 0)).setCell ⟨w.heap.size, 2, none⟩ (.int .i64 0)).setCell ⟨w.heap.size, 3, none⟩ (.int .i64 0)).setCell ⟨w.heap.size, 4, none⟩ (.int .i64 0)) := hCF.mono (fun i hi => by rcases hi with hi | hi | hi; exact .inl hi; (rcases hi with hi | hi; exact .inr (.inl hi); exact .inr (.inr (.inl hi))); exact .inr (.inr (.inr (.inr hi))))
  have hrv5 : ∀ c, (Value.slice (some ⟨g', 0, none⟩) (xs.length + 1) cap').ownBlock = some c → (Value.slice ar xs.length cr).ownBlock = some c ∨ w.heap.size ≤ c := fun c hc => by
    have hb : c = g' := by simp only [Value.ownBlock, Option.some.injEq] at hc; exact hc.symm
    rcases hor5.out with e | e
    · exact .inl (hb ▸ e)
    · exact .inr (by omega)
  have hfin := hid (PortAt.anew h.out hM hpF hwF hlF hrF (fun p hp => hp) (fun c hc => .inl hc) hrv5)
  replace hrv5 := hid hrv5
  have hM := hid hM
  refine bodyPost_ret (v := .tuple #[.agg #[.slice none 0 0, .int .i64 0, .int .i64 0, .int .i64 0, .int .i64 0], .int .i64 6]) (by simp [results, Try.results22, go_sem, y0, y1, y2, y3, y4, hrb, hrb', zl5]) rfl ⟨rfl, _, hfin.out, hM.out, hrv5.out⟩
end
end Go.Proofs.Ytggfallodkbgcaa.Qu

namespace Go.Proofs.Ytggfallodkbgcaa.Qu
set_option linter.unusedVariables false
set_option linter.unusedSimpArgs false
open Go.RowKit Go.Maps Go.Proofs.Ytggfallodkbgcaa.K Go.Proofs.Ytggfallodkbgcaa.Lb Go.Proofs.Ytggfallodkbgcaa.Wh
/-- A port, its own blocks from base on; its messages, who waits; at most N keys in its wheel. -/
def PortOk (w : World) (base pb : Nat) (hold : Int) (ps : List (Value × Msg)) (xs : List Int) (N : Nat) : Prop := ∃ wb mb lv rv n D s, PortAt w base pb wb mb hold lv rv ps xs n D s ∧ n ≤ N
/-- What is below base is kept. -/
def Keeps (base : Nat) (w w' : World) : Prop := ∀ B W0, Below B W0 w → B ≤ w.heap.size → B ≤ base → Below B W0 w'
section
variable {w : World} {base pb : Nat} {hold : Int} {ps : List (Value × Msg)} {xs : List Int} {N : Nat}
theorem PortOk.below {w' : World} (h : PortOk w base pb hold ps xs N) (hb : Below w.heap.size w w') : PortOk w' base pb hold ps xs N := by
  obtain ⟨wb, mb, lv, rv, n, D, s, hP, hn⟩ := h
  exact ⟨wb, mb, lv, rv, n, D, s, hP.below hb, hn⟩
theorem PortOk.mono {N' : Nat} (h : PortOk w base pb hold ps xs N) (hn : N ≤ N') : PortOk w base pb hold ps xs N' := by
  obtain ⟨wb, mb, lv, rv, n, D, s, hP, h1⟩ := h
  exact ⟨wb, mb, lv, rv, n, D, s, hP, by omega⟩
theorem Keeps.of_below {w' : World} (h : Below w.heap.size w w') : Keeps base w w' := fun _ _ h1 h2 _ => Below.next h1 h h2
theorem Keeps.of_chg {w' : World} {wb mb n : Nat} {lv rv : Value} {D : DataW Unit} {s : Int} (h : PortAt w base pb wb mb hold lv rv ps xs n D s) (hc : Chg (PMut pb wb mb lv rv) w w') : Keeps base w w' := fun _ _ h1 h2 h3 => h.toBelow h1 h2 h3 hc
theorem pNew (w : World) (hold : Int) : Calls Try.prog 10 #[.int .i64 hold] w fun e w' => ∃ pb, e = .returned (.pointer (some ⟨pb, 0, none⟩)) ∧ PortOk w' w.heap.size pb (holdT hold) [] [] 0 ∧ Below w.heap.size w w' :=
  (new_c w hold).mono fun e w' ⟨pb, wb, mb, he, hP, hb⟩ => ⟨pb, he, ⟨wb, mb, _, _, _, _, _, hP, Nat.le_refl _⟩, hb⟩
theorem pPutRow (h : PortOk w base pb hold ps xs N) (late seq : Int) {x : Int} {r : List Int} (hx : xs = x :: r) (hxi : isInt x) :
    Calls Try.prog 59 #[.pointer (some ⟨pb, 0, none⟩), .agg #[.slice none 0 0, .int .i64 0, .int .i64 0, .int .i64 late, .int .i64 seq]] w fun e w' => e = .returned (.tuple #[.int .i64 x, .bool true, .int .i64 0]) ∧ PortOk w' base pb hold ps (butT xs x) N ∧ Keeps base w w' := by
  obtain ⟨wb, mb, lv, rv, n, D, s, hP, hn⟩ := h
  exact (putRow_c hP (.slice none 0 0, ⟨[], 0, 0, late, seq⟩) ⟨none, 0, 0, rfl⟩ hx hxi).mono fun e w' ⟨he, rv', h1, h2, _⟩ => ⟨he, ⟨wb, mb, _, _, _, _, _, h1, hn⟩, Keeps.of_chg hP h2⟩
theorem pPutFull (h : PortOk w base pb hold ps [] N) (late seq : Int) (hf : (ps.length : Int) = hold) :
    Calls Try.prog 59 #[.pointer (some ⟨pb, 0, none⟩), .agg #[.slice none 0 0, .int .i64 0, .int .i64 0, .int .i64 late, .int .i64 seq]] w fun e w' => e = .returned (.tuple #[.int .i64 0, .bool false, .int .i64 10]) ∧ PortOk w' base pb hold ps [] N ∧ Keeps base w w' := by
  have h0 := h
  obtain ⟨wb, mb, lv, rv, n, D, s, hP, hn⟩ := h
  exact (putFull_c hP (.slice none 0 0, ⟨[], 0, 0, late, seq⟩) ⟨none, 0, 0, rfl⟩ hf).mono fun e w' ⟨he, hb⟩ => ⟨he, h0.below hb, Keeps.of_below hb⟩
theorem pPutAdd (h : PortOk w base pb hold ps [] N) (late seq : Int) (hf : (ps.length : Int) ≠ hold) (hsm : ps.length < 1000000) :
    Calls Try.prog 59 #[.pointer (some ⟨pb, 0, none⟩), .agg #[.slice none 0 0, .int .i64 0, .int .i64 0, .int .i64 late, .int .i64 seq]] w fun e w' => e = .returned (.tuple #[.int .i64 0, .bool false, .int .i64 0]) ∧ (∃ sv', PortOk w' base pb hold (ps ++ [(sv', ⟨[], 0, 0, late, seq⟩)]) [] N) ∧ Keeps base w w' := by
  obtain ⟨wb, mb, lv, rv, n, D, s, hP, hn⟩ := h
  exact (putAdd_c hP (.slice none 0 0, ⟨[], 0, 0, late, seq⟩) (IntsAt.nil (fun _ => True) w) (by simp) hf hsm).mono fun e w' ⟨he, lv', sv', h1, h2, _, _⟩ => ⟨he, ⟨sv', wb, mb, _, _, _, _, _, h1, hn⟩, Keeps.of_chg hP h2⟩
theorem pAskHas {sv : Value} {m : Msg} {r : List (Value × Msg)} (h : PortOk w base pb hold ((sv, m) :: r) [] N) (x u now : Int) :
    Calls Try.prog 22 #[.pointer (some ⟨pb, 0, none⟩), .int .i64 x, .int .i64 u, .int .i64 now] w fun e w' => (∃ a k c, sv = .slice a k c) ∧ e = .returned (.tuple #[.agg #[sv, .int .i64 m.lane, .int .i64 m.stamp, .int .i64 m.late, .int .i64 m.seq], .int .i64 0]) ∧ PortOk w' base pb hold r [] N ∧ Keeps base w w' := by
  obtain ⟨wb, mb, lv, rv, n, D, s, hP, hn⟩ := h
  exact (askHas_c hP x u now).mono fun e w' ⟨he, lv', h1, h2, h3, _⟩ => ⟨let ⟨a, c, e⟩ := h3.shape; ⟨a, _, c, e⟩, he, ⟨wb, mb, _, _, _, _, _, h1, hn⟩, Keeps.of_chg hP h2⟩
theorem pAskAdd (h : PortOk w base pb hold [] xs N) {x : Int} (u now : Int) (hx : x ∉ xs) (hxi : isInt x) (hlate : lateT now u = false) (hN : N < 1000000) (hxl : xs.length < 1000000) :
    Calls Try.prog 22 #[.pointer (some ⟨pb, 0, none⟩), .int .i64 x, .int .i64 u, .int .i64 now] w fun e w' => e = .returned (.tuple #[.agg #[.slice none 0 0, .int .i64 0, .int .i64 0, .int .i64 0, .int .i64 0], .int .i64 6]) ∧ PortOk w' base pb hold [] (xs ++ [x]) (N + 1) ∧ Keeps base w w' := by
  obtain ⟨wb, mb, lv, rv, n, D, s, hP, hn⟩ := h
  exact (askAdd_c hP u now hx hxi hlate (by omega) hxl).mono fun e w' ⟨he, rv', h1, h2, _⟩ => ⟨he, ⟨wb, mb, _, _, _, _, _, h1, by omega⟩, Keeps.of_chg hP h2⟩
theorem pWaits (h : PortOk w base pb hold ps xs N) (q : Int) : Calls Try.prog 43 #[.pointer (some ⟨pb, 0, none⟩), .int .i64 q] w fun e w' => e = .returned (.bool (decide (q ∈ xs))) ∧ w = w' := by
  obtain ⟨wb, mb, lv, rv, n, D, s, hP, hn⟩ := h
  exact waits_c hP q
theorem pLen (h : PortOk w base pb hold ps xs N) : Calls Try.prog 21 #[.pointer (some ⟨pb, 0, none⟩)] w fun e w' => e = .returned (.int .i64 ps.length) ∧ w = w' := by
  obtain ⟨wb, mb, lv, rv, n, D, s, hP, hn⟩ := h
  exact len_c hP
end
def LivesPost (w : World) (e : Ending) (w' : World) : Prop := e = .returned (.bool true) ∧ Below w.heap.size w w'
/-- A step: what it is, its process, until when, when; its message (the words stand in the value beside it). -/
structure St where
  k : Int
  p : Int
  u : Int
  n : Int
  m : Msg
def encS (q : Value × St) : List Value := [.int .i64 q.2.k, .int .i64 q.2.p, .int .i64 q.2.u, .int .i64 q.2.n, q.1, .int .i64 q.2.m.lane, .int .i64 q.2.m.stamp, .int .i64 q.2.m.late, .int .i64 q.2.m.seq]
def StepsAt (w : World) (v : Value) (qs : List (Value × St)) : Prop :=
  ∃ ao cap, v = .slice ao qs.length cap ∧ (qs.length ≤ cap ∧ cap ≤ maxLen) ∧ (∀ q ∈ qs, IntsAt (fun _ => True) w q.1 q.2.m.words) ∧ (qs = [] ∨ ∃ g o, ao = some ⟨g, o, none⟩ ∧ g < w.heap.size ∧ ∀ i (h : i < qs.length) j, j < 9 → w.cell? ⟨g, o + (i * 9 + j), none⟩ = (encS qs[i])[j]?)
theorem StepsAt.shape {w : World} {v : Value} {qs : List (Value × St)} (h : StepsAt w v qs) : ∃ ao cap, v = .slice ao qs.length cap := let ⟨ao, cap, hv, _⟩ := h; ⟨ao, cap, hv⟩
theorem StepsAt.below {w w' : World} {v : Value} {qs : List (Value × St)} (h : StepsAt w v qs) (hb : Below w.heap.size w w') : StepsAt w' v qs := by
  obtain ⟨ao, cap, hv, hl, hw, hx⟩ := h
  refine ⟨ao, cap, hv, hl, fun q hq => (hw q hq).below hb, ?_⟩
  rcases hx with hx | ⟨g, o, h1, h2, h3⟩
  · exact .inl hx
  · exact .inr ⟨g, o, h1, Nat.lt_of_lt_of_le h2 hb.size, fun i hi j hj => (hb.cell (p := ⟨g, o + (i * 9 + j), none⟩) h2).trans (h3 i hi j hj)⟩
theorem StepsAt.cells {w : World} {ao : Option Addr} {n cap : Nat} {qs : List (Value × St)} (h : StepsAt w (.slice ao n cap) qs) : n = qs.length ∧ n ≤ cap ∧ cap ≤ 9223372036854775807 ∧ ∀ i (hi : i < qs.length), ∃ g o, ao = some ⟨g, o, none⟩ ∧ g < w.heap.size ∧ (∃ a k c, qs[i].1 = .slice a k c) ∧ IntsAt (fun _ => True) w qs[i].1 qs[i].2.m.words ∧
    w.cell? ⟨g, o + i * 9, none⟩ = some (.int .i64 qs[i].2.k) ∧ w.cell? ⟨g, o + i * 9 + 1, none⟩ = some (.int .i64 qs[i].2.p) ∧ w.cell? ⟨g, o + i * 9 + 2, none⟩ = some (.int .i64 qs[i].2.u) ∧ w.cell? ⟨g, o + i * 9 + 3, none⟩ = some (.int .i64 qs[i].2.n) ∧ w.cell? ⟨g, o + i * 9 + 4, none⟩ = some qs[i].1 ∧
    w.cell? ⟨g, o + i * 9 + 5, none⟩ = some (.int .i64 qs[i].2.m.lane) ∧ w.cell? ⟨g, o + i * 9 + 6, none⟩ = some (.int .i64 qs[i].2.m.stamp) ∧ w.cell? ⟨g, o + i * 9 + 7, none⟩ = some (.int .i64 qs[i].2.m.late) ∧ w.cell? ⟨g, o + i * 9 + 8, none⟩ = some (.int .i64 qs[i].2.m.seq) := by
  obtain ⟨ao', cap', hv, ⟨h1, h2⟩, hw, hx⟩ := h
  simp only [Value.slice.injEq] at hv
  obtain ⟨rfl, rfl, rfl⟩ := hv
  refine ⟨rfl, h1, by simpa [maxLen] using h2, fun i hi => ?_⟩
  rcases hx with rfl | ⟨g, o, h3, h5, h6⟩
  · simp at hi
  · have hwi := hw _ (List.getElem_mem hi)
    have h7 := h6 i hi
    exact ⟨g, o, h3, h5, (let ⟨a, c, e⟩ := hwi.shape; ⟨a, _, c, e⟩), hwi, h7 0 (by omega), h7 1 (by omega), h7 2 (by omega), h7 3 (by omega), h7 4 (by omega), h7 5 (by omega), h7 6 (by omega), h7 7 (by omega), h7 8 (by omega)⟩
def kindT (k : Int) : Int := (k % 18446744073709551616) % 9
theorem kindT_lt (k : Int) : 0 ≤ kindT k ∧ kindT k < 9 := by unfold kindT; omega
end Go.Proofs.Ytggfallodkbgcaa.Qu

namespace Go.Proofs.Ytggfallodkbgcaa.Qu
set_option linter.unusedVariables false
set_option linter.unusedSimpArgs false
open Go.RowKit Go.Maps Go.Proofs.Ytggfallodkbgcaa.K Go.Proofs.Ytggfallodkbgcaa.Lb Go.Proofs.Ytggfallodkbgcaa.Wh
theorem own_mono {w : World} {base base' : Nat} {T : TypeId} {k n : Nat} {v : Value} {cs : List Value} (h : w.ownsRow base T k v n cs) (hb : base' ≤ base) : w.ownsRow base' T k v n cs := by
  refine ⟨h.1, ?_⟩
  rcases h.2 with h1 | ⟨g, cap, cur, h1, h2, h3⟩
  · exact .inl h1
  · exact .inr ⟨g, cap, cur, h1, by omega, h3⟩
theorem filter_take {α : Type} {l : List α} {k : Nat} (f : α → Bool) (h : k < l.length) : (l.take (k + 1)).filter f = (l.take k).filter f ++ (if f l[k] then [l[k]] else []) := by
  rw [List.take_succ_eq_append_getElem h, List.filter_append]
  cases hf : f l[k] <;> simp [hf]
theorem own_lt {w : World} {base : Nat} {T : TypeId} {k n : Nat} {v : Value} {cs : List Value} (h : w.ownsRow base T k v n cs) {b : Nat} (hb : v.ownBlock = some b) : b < w.heap.size := by
  obtain ⟨cs, hc⟩ := own_at h hb
  exact (Array.getElem?_eq_some_iff.1 hc).1
section
variable {w : World} {base pb wb mb : Nat} {hold : Int} {lv rv : Value} {ps : List (Value × Msg)} {xs : List Int} {n : Nat} {D : DataW Unit} {s : Int}
def lateP (now : Int) (p : Value × Msg) : Bool := lateT now p.2.late
def SweepPost (w : World) (base pb wb mb : Nat) (hold : Int) (lv rv : Value) (ps : List (Value × Msg)) (xs : List Int) (n : Nat) (D : DataW Unit) (s : Int) (now : Int) (e : Ending) (w' : World) : Prop :=
  ∃ ov lv', e = .returned ov ∧ PortAt w' base pb wb mb hold lv' rv (ps.filter (fun p => !lateP now p)) xs n D s ∧ MsgsAt (fun b => w.heap.size ≤ b) (fun b => ¬ PMut pb wb mb lv rv b) w' ov (ps.filter (lateP now)) ∧ Chg (PMut pb wb mb lv rv) w w' ∧ (∀ b, ov.ownBlock = some b → ¬ PMut pb wb mb lv' rv b) ∧ (∀ b, lv'.ownBlock = some b → w.heap.size ≤ b)
end
end Go.Proofs.Ytggfallodkbgcaa.Qu

namespace Go.Proofs.Ytggfallodkbgcaa.Qu
set_option linter.unusedVariables false
set_option linter.unusedSimpArgs false
open Go.RowKit Go.Maps Go.Proofs.Ytggfallodkbgcaa.K Go.Proofs.Ytggfallodkbgcaa.Lb Go.Proofs.Ytggfallodkbgcaa.Wh
section
variable {w : World} {base pb wb mb : Nat} {hold : Int} {lv rv : Value} {ps : List (Value × Msg)} {xs : List Int} {n : Nat} {D : DataW Unit} {s : Int}
def AllPost (w : World) (ps : List (Value × Msg)) (e : Ending) (w' : World) : Prop :=
  ∃ v' qs, e = .returned v' ∧ qs.map Prod.snd = ps.map Prod.snd ∧ MsgsAt (fun b => w.heap.size ≤ b) (fun b => w.heap.size ≤ b) w' v' qs ∧ Below w.heap.size w w'
end
end Go.Proofs.Ytggfallodkbgcaa.Qu

namespace Go.Proofs.Ytggfallodkbgcaa.Qu
set_option linter.unusedVariables false
set_option linter.unusedSimpArgs false
open Go.RowKit Go.Maps Go.Proofs.Ytggfallodkbgcaa.K Go.Proofs.Ytggfallodkbgcaa.Lb Go.Proofs.Ytggfallodkbgcaa.Wh
/-- A message of at most 8 words. -/
def cut8 (m : Msg) : Msg := { m with words := m.words.take 8 }
theorem IntsAt.cut {ok : Nat → Prop} {w : World} {ao : Option Addr} {cap : Nat} {xs : List Int} (h : IntsAt ok w (.slice ao xs.length cap) xs) (k : Nat) : IntsAt ok w (.slice ao (xs.take k).length cap) (xs.take k) := by
  obtain ⟨ao', cap', hv, ⟨h1, h2, h3⟩, hx⟩ := h
  simp only [Value.slice.injEq] at hv
  obtain ⟨rfl, -, rfl⟩ := hv
  refine ⟨ao, cap, rfl, ⟨by simp; omega, h2, h3⟩, ?_⟩
  rcases hx with rfl | ⟨g, o, e, h4, h5, h6⟩
  · exact .inl (by simp)
  · exact .inr ⟨g, o, e, h4, h5, fun i hi => by rw [h6 i (by simp at hi; omega)]; simp⟩
section
variable {w : World} {base pb : Nat} {hold : Int} {ps : List (Value × Msg)} {xs : List Int} {N : Nat}
theorem pPutFullM (h : PortOk w base pb hold ps [] N) (m : Msg) (a : Option Addr) (n c : Nat) (hf : (ps.length : Int) = hold) :
    Calls Try.prog 59 #[.pointer (some ⟨pb, 0, none⟩), .agg #[.slice a n c, .int .i64 m.lane, .int .i64 m.stamp, .int .i64 m.late, .int .i64 m.seq]] w fun e w' => e = .returned (.tuple #[.int .i64 0, .bool false, .int .i64 10]) ∧ PortOk w' base pb hold ps [] N ∧ Keeps base w w' := by
  have h0 := h
  obtain ⟨wb, mb, lv, rv, n', D, s, hP, hn⟩ := h
  exact (putFull_c hP (.slice a n c, m) ⟨a, n, c, rfl⟩ hf).mono fun e w' ⟨he, hb⟩ => ⟨he, h0.below hb, Keeps.of_below hb⟩
theorem pPutAddM (h : PortOk w base pb hold ps [] N) (m : Msg) {ok : Nat → Prop} {a : Option Addr} {c : Nat} (hi : IntsAt ok w (.slice a m.words.length c) m.words) (hl : m.words.length ≤ 17592186044416) (hf : (ps.length : Int) ≠ hold) (hsm : ps.length < 1000000) :
    Calls Try.prog 59 #[.pointer (some ⟨pb, 0, none⟩), .agg #[.slice a m.words.length c, .int .i64 m.lane, .int .i64 m.stamp, .int .i64 m.late, .int .i64 m.seq]] w fun e w' => e = .returned (.tuple #[.int .i64 0, .bool false, .int .i64 0]) ∧ (∃ sv', PortOk w' base pb hold (ps ++ [(sv', m)]) [] N) ∧ Keeps base w w' := by
  obtain ⟨wb, mb, lv, rv, n, D, s, hP, hn⟩ := h
  exact (putAdd_c hP (.slice a m.words.length c, m) hi hl hf hsm).mono fun e w' ⟨he, lv', sv', h1, h2, _, _⟩ => ⟨he, ⟨sv', wb, mb, _, _, _, _, _, h1, hn⟩, Keeps.of_chg hP h2⟩
/-- Of one row of messages two things are known of the words' blocks, at w; one of them at w' too. -/
theorem _root_.Go.Proofs.Ytggfallodkbgcaa.K.WordsIn.both {ok1 ok2 : Nat → Prop} {w w' : World} {ps : List (Value × Msg)} (h' : WordsIn ok1 w' ps) (h1 : WordsIn ok1 w ps) (h2 : WordsIn ok2 w ps) : WordsIn ok2 w' ps := by
  intro p hp
  obtain ⟨ao, cap, hv, hl, hx⟩ := h' p hp
  obtain ⟨ao2, cap2, hv2, _, hx2⟩ := h2 p hp
  rw [hv] at hv2
  simp only [Value.slice.injEq] at hv2
  obtain ⟨rfl, -, rfl⟩ := hv2
  refine ⟨ao, cap, hv, hl, ?_⟩
  rcases hx with hx | ⟨g, o, e1, e2, e3, e4⟩
  · exact .inl hx
  · rcases hx2 with hx2 | ⟨g2, o2, f1, f2, f3, _⟩
    · exact .inl hx2
    · rw [e1] at f1
      simp only [Option.some.injEq, Addr.mk.injEq] at f1
      obtain ⟨rfl, rfl, _⟩ := f1
      exact .inr ⟨g, o, e1, f2, e3, e4⟩
theorem _root_.Go.Proofs.Ytggfallodkbgcaa.K.WordsIn.both2 {M P : Nat → Prop} {w w' : World} {ps : List (Value × Msg)} {Q : Nat → Prop} (hs : w.heap.size ≤ w'.heap.size) (hk : ∀ b, ¬ P b → b < w.heap.size → w'.heap[b]? = w.heap[b]?) (h1 : WordsIn M w ps) (h2 : WordsIn (fun b => ¬ P b) w ps) : WordsIn (fun b => M b ∨ Q b) w' ps := by
  have h3 := h2.kept hs (fun b hb hlt => hk b hb hlt)
  have h4 : WordsIn M w' ps := WordsIn.both h3 h2 h1
  exact h4.mono (fun b hb _ => .inl hb)
/-- A port; M: a bound on its own blocks, its words' too. -/
def PortM (w : World) (base pb : Nat) (hold : Int) (ps : List (Value × Msg)) (N : Nat) (M : Nat → Prop) : Prop := ∃ wb mb lv rv n D s, PortAt w base pb wb mb hold lv rv ps [] n D s ∧ n ≤ N ∧ (∀ b, PMut pb wb mb lv rv b → M b) ∧ WordsIn M w ps
theorem PortM.ok {M : Nat → Prop} (h : PortM w base pb hold ps N M) : PortOk w base pb hold ps [] N := by
  obtain ⟨wb, mb, lv, rv, n, D, s, hP, hn, _, _⟩ := h
  exact ⟨wb, mb, lv, rv, n, D, s, hP, hn⟩
theorem PortM.new (h : PortOk w base pb hold [] [] N) : PortM w base pb hold [] N (fun b => base ≤ b ∧ b < w.heap.size) := by
  obtain ⟨wb, mb, lv, rv, n, D, s, hP, hn⟩ := h
  exact ⟨wb, mb, lv, rv, n, D, s, hP, hn, fun b hb => ⟨hP.mut_ge hb, hP.mut_lt hb⟩, WordsIn.nil _ _⟩
/-- What leaves M's blocks as they were leaves the port. -/
theorem PortM.kept {w' : World} {M : Nat → Prop} (h : PortM w base pb hold ps N M) (hs : w.heap.size ≤ w'.heap.size) (hk : ∀ b, M b → b < w.heap.size → w'.heap[b]? = w.heap[b]?) : PortM w' base pb hold ps N M := by
  obtain ⟨wb, mb, lv, rv, n, D, s, hP, hn, hM, hW⟩ := h
  have hW' := hW.kept hs hk
  have k : ∀ b, PMut pb wb mb lv rv b → w'.heap[b]? = w.heap[b]? := fun b hb => hk b (hM b hb) (hP.mut_lt hb)
  refine ⟨wb, mb, lv, rv, n, D, s, ⟨hP.at_.of (k pb (.inl rfl)), hP.wh.kept (k wb (.inr (.inl rfl))) (k mb (.inr (.inr (.inl rfl)))), own_of hP.l (fun b e => k b (.inr (.inr (.inr (.inl e))))), own_of hP.row (fun b e => k b (.inr (.inr (.inr (.inr e))))), ?_, hP.ge⟩, hn, hM, hW'⟩
  exact WordsIn.both hW' hW hP.words
theorem pPutAddM' {M : Nat → Prop} (h : PortM w base pb hold ps N M) (m : Msg) {ok : Nat → Prop} {a : Option Addr} {c : Nat} (hi : IntsAt ok w (.slice a m.words.length c) m.words) (hl : m.words.length ≤ 17592186044416) (hf : (ps.length : Int) ≠ hold) (hsm : ps.length < 1000000) :
    Calls Try.prog 59 #[.pointer (some ⟨pb, 0, none⟩), .agg #[.slice a m.words.length c, .int .i64 m.lane, .int .i64 m.stamp, .int .i64 m.late, .int .i64 m.seq]] w fun e w' => e = .returned (.tuple #[.int .i64 0, .bool false, .int .i64 0]) ∧ (∃ sv', PortM w' base pb hold (ps ++ [(sv', m)]) N (fun b => M b ∨ (w.heap.size ≤ b ∧ b < w'.heap.size))) ∧ Chg M w w' := by
  obtain ⟨wb, mb, lv, rv, n, D, s, hP, hn, hM, hW⟩ := h
  exact (putAdd_c hP (.slice a m.words.length c, m) hi hl hf hsm).mono fun e w' ⟨he, lv', sv', h1, h2, h3, h4⟩ => ⟨he, ⟨sv', wb, mb, _, _, _, _, _, h1, hn, fun b hb => by
    have hlt := h1.mut_lt hb
    rcases hb with hb | hb | hb | hb | hb
    · exact .inl (hM b (.inl hb))
    · exact .inl (hM b (.inr (.inl hb)))
    · exact .inl (hM b (.inr (.inr (.inl hb))))
    · rcases h3 b hb with h4 | h4
      · exact .inl (hM b (.inr (.inr (.inr (.inl h4)))))
      · exact .inr ⟨h4, hlt⟩
    · exact .inl (hM b (.inr (.inr (.inr (.inr hb))))), WordsIn.snoc (WordsIn.both2 h2.size (fun b hb hlt => h2.block b hlt hb) hW hP.words) (h4.mono (fun b hb hlt => .inr ⟨hb, hlt⟩))⟩, h2.mono hM⟩
def lateM (now : Int) (m : Msg) : Bool := lateT now m.late
end
end Go.Proofs.Ytggfallodkbgcaa.Qu

namespace Go.Proofs.Ytggfallodkbgcaa.Qu
set_option linter.unusedVariables false
set_option linter.unusedSimpArgs false
open Go.RowKit Go.Maps Go.Proofs.Ytggfallodkbgcaa.K Go.Proofs.Ytggfallodkbgcaa.Lb Go.Proofs.Ytggfallodkbgcaa.Wh
section
variable {w w' : World} {base pb wb mb : Nat} {hold : Int} {ps ps' : List (Value × Msg)} {lv rv lv' rv' : Value} {xs' : List Int} {n n' N : Nat} {D D' : DataW Unit} {s s' : Int} {M : Nat → Prop}
/-- Behind a call that takes messages away. -/
theorem PortM.sub (hP : PortAt w base pb wb mb hold lv rv ps xs' n D s) (hM : ∀ b, PMut pb wb mb lv rv b → M b) (hW : WordsIn M w ps) (hP' : PortAt w' base pb wb mb hold lv' rv' ps' [] n' D' s') (hN : n' ≤ N) (hsub : ∀ p ∈ ps', p ∈ ps) (hc : Chg (PMut pb wb mb lv rv) w w')
    (hl : ∀ b, lv'.ownBlock = some b → M b ∨ w.heap.size ≤ b) (hr : ∀ b, rv'.ownBlock = some b → M b ∨ w.heap.size ≤ b) : PortM w' base pb hold ps' N (grow M w w') := by
  refine ⟨wb, mb, lv', rv', n', D', s', hP', hN, fun b hb => ?_, ?_⟩
  · have hlt := hP'.mut_lt hb
    rcases hb with hb | hb | hb | hb | hb
    · exact .inl (hM b (.inl hb))
    · exact .inl (hM b (.inr (.inl hb)))
    · exact .inl (hM b (.inr (.inr (.inl hb))))
    · rcases hl b hb with h | h
      · exact .inl h
      · exact .inr ⟨h, hlt⟩
    · rcases hr b hb with h | h
      · exact .inl h
      · exact .inr ⟨h, hlt⟩
  · exact WordsIn.both2 hc.size (fun b hb hlt => hc.block b hlt hb) (hW.sub hsub) (hP.words.sub hsub)
theorem pAskHasM {sv : Value} {m : Msg} {r : List (Value × Msg)} (h : PortM w base pb hold ((sv, m) :: r) N M) (x u now : Int) :
    Calls Try.prog 22 #[.pointer (some ⟨pb, 0, none⟩), .int .i64 x, .int .i64 u, .int .i64 now] w fun e w' => e = .returned (.tuple #[.agg #[sv, .int .i64 m.lane, .int .i64 m.stamp, .int .i64 m.late, .int .i64 m.seq], .int .i64 0]) ∧ IntsAt (fun _ => True) w' sv m.words ∧ PortM w' base pb hold r N (grow M w w') ∧ Chg M w w' := by
  obtain ⟨wb, mb, lv, rv, n, D, s, hP, hn, hM, hW⟩ := h
  exact (askHas_c hP x u now).mono fun e w' ⟨he, lv', h1, h2, h3, h4⟩ => ⟨he, (h3.kept h2.size (fun b hb hlt => h2.block b hlt hb)).mono (fun _ _ _ => trivial), PortM.sub hP hM hW h1 hn (fun p hp => List.mem_cons_of_mem _ hp) h2 (fun b hb => .inl (hM b (.inr (.inr (.inr (.inl (h4 b hb))))))) (fun b hb => .inl (hM b (.inr (.inr (.inr (.inr hb)))))), h2.mono hM⟩
theorem PortM.below (h : PortM w base pb hold ps N M) (hb : Below w.heap.size w w') : PortM w' base pb hold ps N M := h.kept hb.size (fun b _ hlt => hb.block b hlt)
end
theorem filter_snd {xs ys : List (Value × Msg)} (h : xs.map Prod.snd = ys.map Prod.snd) (f : Msg → Bool) : (xs.filter (fun p => f p.2)).map Prod.snd = (ys.filter (fun p => f p.2)).map Prod.snd := by
  have e : ∀ l : List (Value × Msg), (l.filter (fun p => f p.2)).map Prod.snd = (l.map Prod.snd).filter f := fun l => by rw [List.filter_map]; rfl
  rw [e, e, h]
end Go.Proofs.Ytggfallodkbgcaa.Qu
