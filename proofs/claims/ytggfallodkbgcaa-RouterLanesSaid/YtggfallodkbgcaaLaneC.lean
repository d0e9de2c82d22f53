/- DERIVED. Walks over lanes: slices.IndexFunc and slices.DeleteFunc at lane's closure (messages of one lane), Of, Room, Peek. No statement is proved here. -/
import Derived.Test.YtggfallodkbgcaaLaneB
namespace Go.Proofs.Ytggfallodkbgcaa.La
set_option linter.unusedVariables false
set_option linter.unusedSimpArgs false
open Go.RowKit Go.Proofs.Ytggfallodkbgcaa.K Go.Proofs.Ytggfallodkbgcaa.Sp Go.Proofs.Ytggfallodkbgcaa.Lb Go.Proofs.Ytggfallodkbgcaa.So
theorem of1_c {w : World} {kb : Nat} {k : Int} (hk : w.cell? ⟨kb, 0, none⟩ = some (.int .i64 k)) (hl : kb < w.heap.size) (a : Option Addr) (n c : Nat) (m : Msg) : Calls Try.prog 64 #[.agg #[.slice a n c, .int .i64 m.lane, .int .i64 m.stamp, .int .i64 m.late, .int .i64 m.seq], .pointer (some ⟨kb, 0, none⟩)] w fun e w' => e = .returned (.bool (m.lane != k)) ∧ Below w.heap.size w w' := by
  have hne : kb ≠ w.heap.size := by omega
  go_enter Try.func64, Try.ntmps64
  go_wp2
  go_ret
  exact ⟨rfl, (Below.refl _ _).alloc (Nat.le_refl _) _⟩
section
variable {α : Type}
/-- The first that f takes away, or -1. -/
def idxF (f : α → Bool) : List α → Int
  | [] => -1
  | y :: r => if f y then 0 else if idxF f r < 0 then -1 else idxF f r + 1
theorem idxF_none {f : α → Bool} {xs : List α} (h : ∀ x ∈ xs, f x = false) : idxF f xs = -1 := by
  induction xs with
  | nil => rfl
  | cons y r ih =>
    unfold idxF
    rw [h y (by simp), ih (fun x hx => h x (by simp [hx]))]; rfl
theorem idxF_found {f : α → Bool} {xs : List α} {k : Nat} (hk : k < xs.length) (h : ∀ x ∈ xs.take k, f x = false) (he : f xs[k] = true) : idxF f xs = k := by
  induction xs generalizing k with
  | nil => simp at hk
  | cons y r ih =>
    cases k with
    | zero => simp only [List.getElem_cons_zero] at he; unfold idxF; rw [he]; rfl
    | succ k =>
      have h1 := ih (k := k) (by simpa using hk) (fun x hx => h x (by simp [hx])) he
      unfold idxF
      rw [h y (by simp), h1, if_neg (by simp), if_neg (by omega)]; omega
theorem idxF_split (f : α → Bool) (xs : List α) : ((∀ x ∈ xs, f x = false) ∧ idxF f xs = -1) ∨ ∃ k : Nat, ∃ hk : k < xs.length, (∀ x ∈ xs.take k, f x = false) ∧ f xs[k] = true ∧ idxF f xs = k := by
  induction xs with
  | nil => exact .inl ⟨by simp, rfl⟩
  | cons y r ih =>
    cases hy : f y with
    | true => exact .inr ⟨0, by simp, by simp, hy, idxF_found (by simp) (by simp) hy⟩
    | false =>
      rcases ih with ⟨h, _⟩ | ⟨k, hk, h1, h2, _⟩
      · have h' : ∀ x ∈ y :: r, f x = false := fun x hx => by rcases List.mem_cons.1 hx with rfl | hx; exact hy; exact h x hx
        exact .inl ⟨h', idxF_none h'⟩
      · have h' : ∀ x ∈ (y :: r).take (k + 1), f x = false := fun x hx => by rw [List.take_succ_cons] at hx; rcases List.mem_cons.1 hx with rfl | hx; exact hy; exact h1 x hx
        exact .inr ⟨k + 1, by simpa using hk, h', by simpa using h2, idxF_found (by simpa using hk) h' (by simpa using h2)⟩
/-- Half way: the first i are those of the first j that stay; from j on nothing has moved. -/
structure HalfG (f : α → Bool) (xs ys : List α) (i j : Nat) : Prop where
  len : ys.length = xs.length
  lo : ys.take i = (xs.take j).filter (fun x => !f x)
  hi : ys.drop j = xs.drop j
  lt : i < j
  le : j ≤ xs.length
theorem HalfG.start {f : α → Bool} {xs : List α} {k : Nat} (hk : k < xs.length) (h : ∀ x ∈ xs.take k, f x = false) (he : f xs[k] = true) : HalfG f xs xs k (k + 1) :=
  ⟨rfl, by rw [filter_take _ hk]; simp only [he]; simp; rw [List.filter_eq_self.2]; intro x hx; simp [h x hx], rfl, by omega, by omega⟩
theorem HalfG.at_ {f : α → Bool} {xs ys : List α} {i j : Nat} (h : HalfG f xs ys i j) (hj : j < xs.length) (hj' : j < ys.length) : ys[j] = xs[j] := by
  have h1 := congrArg (fun l => l[0]?) h.hi
  simp only [List.getElem?_drop, Nat.add_zero] at h1
  rw [List.getElem?_eq_getElem hj', List.getElem?_eq_getElem hj] at h1
  exact Option.some.inj h1
theorem HalfG.skip {f : α → Bool} {xs ys : List α} {i j : Nat} (h : HalfG f xs ys i j) (hj : j < xs.length) (he : f xs[j] = true) : HalfG f xs ys i (j + 1) :=
  ⟨h.len, by rw [filter_take _ hj, h.lo]; simp [he], by rw [← List.drop_drop, ← List.drop_drop, h.hi], by have := h.lt; omega, by omega⟩
theorem HalfG.keep {f : α → Bool} {xs ys : List α} {i j : Nat} (h : HalfG f xs ys i j) (hj : j < xs.length) (he : f xs[j] = false) : HalfG f xs (ys.set i xs[j]) (i + 1) (j + 1) := by
  have hl := h.len
  have hlt := h.lt
  refine ⟨by simpa using hl, ?_, ?_, by omega, by omega⟩
  · rw [filter_take _ hj, ← h.lo, List.take_succ_eq_append_getElem (by simp; omega), List.take_set, List.set_eq_of_length_le (by simp; omega)]
    simp [he]
  · rw [List.drop_set_of_lt (by omega), ← List.drop_drop, ← List.drop_drop, h.hi]
end
def otherLane (k : Int) (p : Value × Msg) : Bool := p.2.lane != k
def FnOf (kb : Nat) : Value := .func (.func 64) #[] #[.pointer (some ⟨kb, 0, none⟩)]
def IdxPost (w : World) (i : Int) (e : Ending) (w' : World) : Prop := e = .returned (.int .i64 i) ∧ Below w.heap.size w w'
set_option maxHeartbeats 1000000 in
theorem indexFunc_c {ok okw : Nat → Prop} {w : World} {v : Value} {ps : List (Value × Msg)} (h : MsgsAt ok okw w v ps) {kb : Nat} {k : Int} (hk : w.cell? ⟨kb, 0, none⟩ = some (.int .i64 k)) (hkl : kb < w.heap.size) :
    Calls Try.prog 75 #[v, FnOf kb] w (IdxPost w (idxF (otherLane k) ps)) := by
  obtain ⟨ao, cap, rfl⟩ := h.shape
  obtain ⟨-, hl, hm, -⟩ := h.get
  replace h := hid h
  unfold FnOf
  go_enter Try.func75, Try.ntmps75
  go_wp2
  go_loopg [8, 5] ps.length (fun g i i5 wr => ∃ j : Nat, j ≤ ps.length ∧ g = ps.length - j ∧ i = .int .i64 j ∧ (∀ x ∈ ps.take j, otherLane k x = false) ∧ Below w.heap.size w wr)
  case atStart => exact ⟨0, Nat.zero_le _, rfl, rfl, by simp, Below.refl _ _⟩
  case round =>
    obtain ⟨j, hj, hgj, rfl, hnot, hb⟩ := hrel
    by_cases hlt : j < ps.length
    · have hms := h.out.below hb
      obtain ⟨g, o, a1, c1, rfl, -, -, hat, -⟩ := hms.at5 hlt
      have hk' := (hb.cell (p := ⟨kb, 0, none⟩) hkl).trans hk
      have hkl' := Nat.lt_of_lt_of_le hkl hb.size
      have hcl := hid (fun (w : World) h1 h2 => of1_c (w := w) (kb := kb) (k := k) h1 h2 a1 ps[j].2.words.length c1 ps[j].2)
      have hidx := hid (fun (he : otherLane k ps[j] = true) => idxF_found hlt hnot he)
      have hnx : Hid (otherLane k ps[j] = false → ∀ x ∈ ps.take (j + 1), otherLane k x = false) := hid fun he x hx => by
        rw [List.take_succ_eq_append_getElem hlt] at hx
        rcases List.mem_append.1 hx with hx | hx
        · exact hnot x hx
        · simp at hx; subst hx; exact he
      unfold otherLane at hidx hnx
      generalize ps[j].2 = m at hat hcl hidx hnx
      obtain ⟨x0, x1, x2, x3, x4, hxl⟩ := hat
      replace hnot := hid hnot
      replace hms := hid hms
      replace hb := hid hb
      by_cases he : m.lane = k
      · have hq : (m.lane != k) = false := by simpa using he
        have hnx := hid (hnx.out hq)
        clear hidx
        replace he := hid he
        go_wp2_with (first | (go_at_call 64; (with_reducible refine (hcl.out _ hk' hkl').mono ?_); rw [hq]; rintro e w' ⟨rfl, hb'⟩; replace hb' := hid (Below.next hb.out hb' hb.out.size)))
        go_roundg (ps.length - (j + 1))
        case rel => exact ⟨j + 1, by omega, rfl, by go_num, hnx.out, hb'.out⟩
        case measure => omega
      · have hq : (m.lane != k) = true := by simpa using he
        have hix := hid (hidx.out hq)
        clear hnx
        replace he := hid he
        go_wp2_with (first | (go_at_call 64; (with_reducible refine (hcl.out _ hk' hkl').mono ?_); rw [hq]; rintro e w' ⟨rfl, hb'⟩; replace hb' := hid (Below.next hb.out hb' hb.out.size)))
        go_ret
        exact ⟨by unfold otherLane; rw [hix.out] <;> rfl, hb'.out⟩
    · obtain rfl : j = ps.length := by omega
      rw [List.take_length] at hnot
      have hi := hid (idxF_none hnot)
      clear hnot
      go_wp2
      go_ret
      exact ⟨by rw [hi.out] <;> rfl, hb⟩
theorem zeroMsg (w : World) : (zeroValue 37).run Try.prog w = .ok (.agg #[.slice none 0 0, .int .i64 0, .int .i64 0, .int .i64 0, .int .i64 0]) w := by kernel_rfl
def zeros5 (n : Nat) : List Value := (Builtin.zeroCells (Value.agg #[.slice none 0 0, .int .i64 0, .int .i64 0, .int .i64 0, .int .i64 0]).cells n).toList
theorem zeros5_len (n : Nat) : (zeros5 n).length = n * 5 := by
  unfold zeros5
  rw [Array.length_toList, size_zeroCells]; rfl
theorem zeros5_one (n : Nat) : ∀ v ∈ zeros5 n, v.oneCell' = true := by
  intro v hv
  unfold zeros5 Builtin.zeroCells at hv
  simp only [Value.cells] at hv
  simp at hv
  obtain ⟨i, hi, rfl⟩ := hv
  have : i % 5 = 0 ∨ i % 5 = 1 ∨ i % 5 = 2 ∨ i % 5 = 3 ∨ i % 5 = 4 := by omega
  rcases this with e | e | e | e | e <;> simp [e, Value.oneCell']
theorem at5_pts {w : World} {g : Nat} {T : TypeId} {s : List (Value × Msg)} {ex : List Value} (h : pts w g (flat encM s ++ ex) T) {i : Nat} (hi : i < s.length) : At5 w g (i * 5) s[i].1 s[i].2 := by
  have hc : ∀ j, j < 5 → w.cell? ⟨g, i * 5 + j, none⟩ = (encM s[i])[j]? := fun j hj => by rw [h.cell, flat_get encM_len s ex i j hi hj]
  exact ⟨hc 0 (by omega), hc 1 (by omega), hc 2 (by omega), hc 3 (by omega), hc 4 (by omega), h.lt⟩
def DelPost (w : World) (base : Nat) (v : Value) (ps : List (Value × Msg)) (k : Int) (e : Ending) (w' : World) : Prop :=
  ∃ v' qs, e = .returned v' ∧ qs = ps.filter (fun p => !otherLane k p) ∧ w'.ownsRow base 37 5 v' qs.length (flat encM qs) ∧ Chg (fun c => v.ownBlock = some c) w w' ∧ (∀ c, v'.ownBlock = some c → v.ownBlock = some c)
set_option maxHeartbeats 1000000 in
theorem deleteFunc_c {w : World} {base : Nat} {v : Value} {ps : List (Value × Msg)} {okw : Nat → Prop} (hown : w.ownsRow base 37 5 v ps.length (flat encM ps)) (hw : WordsIn okw w ps) {kb : Nat} {k : Int} (hk : w.cell? ⟨kb, 0, none⟩ = some (.int .i64 k)) (hkl : kb < w.heap.size) (hkv : v.ownBlock ≠ some kb) :
    Calls Try.prog 63 #[v, FnOf kb] w (DelPost w base v ps k) := by
  have hI := MsgsAt.of_own hown hw
  have hix0 := indexFunc_c hI hk hkl
  unfold FnOf at *
  rcases idxF_split (otherLane k) ps with ⟨hnot, hix⟩ | ⟨f, hf, hnot, hkq, hix⟩
  · rw [hix] at hix0
    have hfin : Hid (∀ w', Below w.heap.size w w' → DelPost w base v ps k (.returned v) w') := hid fun w' hb => ⟨v, ps, rfl, by rw [List.filter_eq_self.2]; intro x hx; simp [hnot x hx], own_of hown (fun b e => hb.block b (own_lt hown e)), Chg.of_below hb, fun c h => h⟩
    obtain ⟨ao, cap, rfl⟩ := hI.shape
    replace hix0 := hid hix0
    replace hI := hid hI
    clear hown hnot hix
    go_enter Try.func63, Try.ntmps63
    go_wp2_with (first | (go_at_call 75; (with_reducible refine (hix0.out).mono ?_); rintro e w' ⟨rfl, hb⟩; have hf := hid (hfin.out _ hb); clear hb))
    go_ret
    exact hf.out
  · rw [hix] at hix0
    obtain ⟨g, cap, ex, rfl, hbg, hp, hnc, hcm⟩ := own_split hown (by omega)
    have hbg' : kb ≠ g := fun e => hkv (by rw [e]; rfl)
    have hst := hid (HalfG.start hf hnot hkq)
    unfold maxLen at hcm
    have hsz : (flat encM ps ++ ex).length = cap * 5 := by
      rcases hown.2 with ⟨h, _⟩ | ⟨g', cap', cur, h1, _, hh, _, _, hcs, _⟩
      · cases h
      · simp only [Value.slice.injEq, Option.some.injEq, Addr.mk.injEq] at h1
        obtain ⟨⟨rfl, _, _⟩, _, rfl⟩ := h1
        unfold pts at hp
        rw [hp] at hh
        simp only [Option.some.injEq, Obj.cells.injEq] at hh
        rw [← hh.1] at hcs
        simpa using hcs
    have hex : ex.length = (cap - ps.length) * 5 := by
      rw [List.length_append, flat_length encM_len] at hsz
      rw [Nat.sub_mul]; omega
    replace hex := hid hex
    replace hix0 := hid hix0
    have hshp := hid (show ∀ p ∈ ps, ∃ a n c, p.1 = .slice a n c from fun p hp => let ⟨a, c, e⟩ := (hw p hp).shape; ⟨a, _, c, e⟩)
    have hw0 := hid (Chg.refl (So.Row g) w)
    have hgl := hp.lt
    have hp0 := hid hp
    clear hown hnot hkq hix hI hsz hp
    go_enter Try.func63, Try.ntmps63
    go_wp2_with (first | (go_at_call 75; (with_reducible refine (hix0.out).mono ?_); rintro e w1 ⟨rfl, hb1⟩; replace hb1 := hid hb1))
    go_loopg [5, 6] (ps.length - (f + 1)) (fun gg si sj wr => ∃ (i j : Nat) (ys : List (Value × Msg)), si = .int .i64 i ∧ sj = .int .i64 j ∧ gg = ps.length - j ∧ pts wr g (flat encM ys ++ ex) 37 ∧ HalfG (otherLane k) ps ys i j ∧ Chg (So.Row g) w wr)
    case atStart => exact ⟨f, f + 1, ps, rfl, by go_num, rfl, hp0.out.below hb1.out, hst.out, Chg.of_below hb1.out⟩
    case round =>
      clear hst hw0
      obtain ⟨i, j, ys, rfl, rfl, hgg, hpr, hh, hch⟩ := hrel
      have hcr := (World.cell?_of_block (a := ⟨kb, 0, none⟩) (hch.block kb hkl hbg')).trans hk
      have hlen := hh.len
      have hij := hh.lt
      have hjl := hh.le
      by_cases hlt : j < ps.length
      · have hj' : j < ys.length := by omega
        have hyj := hh.at_ hlt hj'
        obtain ⟨a1, n1, c1, e1⟩ := hshp.out _ (List.getElem_mem hlt)
        have hcell : ∀ t, t < 5 → wr.cell? ⟨g, j * 5 + t, none⟩ = (encM ps[j])[t]? := fun t ht => by rw [hpr.cell, flat_get encM_len ys ex j t hj' ht, hyj]
        have hat : At5 wr g (j * 5) (.slice a1 n1 c1) ps[j].2 := ⟨by rw [← e1]; exact hcell 0 (by omega), hcell 1 (by omega), hcell 2 (by omega), hcell 3 (by omega), hcell 4 (by omega), hpr.lt⟩
        have hput := put5_pts (i := i) hpr (by omega)
        have hsk := hid (fun (he : otherLane k ps[j] = true) => hh.skip hlt he)
        have hkp := hid (fun (he : otherLane k ps[j] = false) => hh.keep hlt he)
        have hpj : ps[j] = (.slice a1 n1 c1, ps[j].2) := by rw [← e1]
        rw [hpj] at hsk hkp
        unfold otherLane at hsk hkp
        generalize ps[j].2 = m at hat hsk hkp
        clear hcell hyj hpj e1
        have hkl' : kb < wr.heap.size := Nat.lt_of_lt_of_le hkl hch.size
        have hbA := (Below.refl wr.heap.size wr).alloc (Nat.le_refl _) (.cells #[.slice a1 n1 c1, .int .i64 m.lane, .int .i64 m.stamp, .int .i64 m.late, .int .i64 m.seq] 37)
        have hcl := hid (fun (w : World) h1 h2 => of1_c (w := w) (kb := kb) (k := k) h1 h2 a1 n1 c1 m)
        have hA5 := hid (pts.newA wr #[.slice a1 n1 c1, .int .i64 m.lane, .int .i64 m.stamp, .int .i64 m.late, .int .i64 m.seq] 37)
        have hkA := (hbA.cell (p := ⟨kb, 0, none⟩) hkl').trans hcr
        have hkAl : kb < (wr.alloc (.cells #[.slice a1 n1 c1, .int .i64 m.lane, .int .i64 m.stamp, .int .i64 m.late, .int .i64 m.seq] 37)).heap.size := by simp; omega
        obtain ⟨x0, x1, x2, x3, x4, hxl⟩ := hat
        replace hbA := hid hbA
        replace hkA := hid hkA
        replace hkAl := hid hkAl
        replace hh := hid hh
        replace hpr := hid hpr
        replace hch := hid hch
        replace hput := hid hput
        replace hlen := hid hlen
        clear hput
        have hpr2 := hid (fun (w' : World) (hb : Below wr.heap.size wr w') => put5_pts (w := w') (i := i) (hpr.out.below hb) (by have := hlen.out; omega) (.slice a1 n1 c1, m))
        have hch2 := hid (fun (w' : World) (hb : Below wr.heap.size wr w') => put5_chg (g := g) (o := i * 5) (p := (.slice a1 n1 c1, m)) (hch.out.below hb))
        have hig : (i : Int) < ps.length := by omega
        by_cases he : m.lane = k
        · have hq : (m.lane != k) = false := by simpa using he
          have hkp := hid (hkp.out hq)
          clear hsk
          replace he := hid he
          go_wp2_with (first | (go_at_call 64; (with_reducible refine (hcl.out _ hkA.out hkAl.out).mono ?_); rw [hq]; rintro e w2 ⟨rfl, hb2⟩; have hA2 := hA5.out.below hb2; have y0 := hA2.cell 0; have y1 := hA2.cell 1; have y2 := hA2.cell 2; have y3 := hA2.cell 3; have y4 := hA2.cell 4; simp only [List.getElem?_cons_zero, List.getElem?_cons_succ] at y0 y1 y2 y3 y4; have hb3 := Below.next hbA.out hb2 (by simp); have fz := fun o => (hpr.out.below hb3).frozen o; obtain ⟨z0, z1, z2, z3, z4, zl⟩ := at5_pts (i := i) (hpr.out.below hb3) (by have := hlen.out; omega); have hgl2 : g < w2.heap.size := Nat.lt_of_lt_of_le hxl hb3.size; replace hpr2 := hid (hpr2.out _ hb3); replace hch2 := hid (hch2.out _ hb3); clear hA2; clear hb2; clear hb3))
          go_roundg (ps.length - (j + 1))
          case rel => exact ⟨i + 1, j + 1, ys.set i (.slice a1 n1 c1, m), by go_num, by go_num, rfl, hpr2.out, hkp.out, hch2.out⟩
          case measure => omega
        · have hq : (m.lane != k) = true := by simpa using he
          have hsk := hid (hsk.out hq)
          clear hkp
          replace he := hid he
          go_wp2_with (first | (go_at_call 64; (with_reducible refine (hcl.out _ hkA.out hkAl.out).mono ?_); rw [hq]; rintro e w2 ⟨rfl, hb2⟩; have hb3 := hid (Below.next hbA.out hb2 (by simp)); clear hb2))
          go_roundg (ps.length - (j + 1))
          case rel => exact ⟨i, j + 1, ys, rfl, by go_num, rfl, hpr.out.below hb3.out, hsk.out, hch.out.below hb3.out⟩
          case measure => omega
      · obtain rfl : j = ps.length := by omega
        have hyl : ys.length = ps.length := hlen
        have hfy : (flat encM ys).length = ps.length * 5 := by rw [flat_length encM_len, hyl]
        have hcl : ∀ ty, (Builtin.clear_ #[41] ty #[.slice (some ⟨g, i * 5, none⟩) (ps.length - i) (cap - i)]).run Try.prog wr = .ok (.tuple #[]) (wr.setRow g ((flat encM ys ++ ex).take (i * 5) ++ zeros5 (ps.length - i) ++ (flat encM ys ++ ex).drop (i * 5 + (zeros5 (ps.length - i)).length)).toArray) :=
          fun ty => run_clear_row (P := Try.prog) (t := 41) (ty := ty) (n := ps.length - i) (c := cap - i) Try.underlying41 zeroMsg hpr (o := i * 5) (by omega) rfl (zeros5_one _) (by rw [zeros5_len, List.length_append, hfy, Nat.sub_mul]; omega)
        have hfin : DelPost w base (.slice (some ⟨g, 0, none⟩) ps.length cap) ps k (.returned (.slice (some ⟨g, 0, none⟩) i cap)) (wr.setRow g ((flat encM ys ++ ex).take (i * 5) ++ zeros5 (ps.length - i) ++ (flat encM ys ++ ex).drop (i * 5 + (zeros5 (ps.length - i)).length)).toArray) := by
          have hlo := hh.lo
          rw [List.take_length] at hlo
          have hbl : (ps.filter (fun p => !otherLane k p)).length = i := by rw [← hlo]; simp; omega
          have htk : (flat encM ys ++ ex).take (i * 5) = flat encM (ps.filter (fun p => !otherLane k p)) := by
            rw [List.take_append_of_le_length (by rw [hfy]; exact Nat.mul_le_mul_right 5 (by omega)), ← hlo]
            have e2 : ys = ys.take i ++ ys.drop i := (List.take_append_drop _ _).symm
            conv => lhs; rw [e2, flat_append]
            have hl5 : (flat encM (ys.take i)).length = i * 5 := by rw [flat_length encM_len]; congr 1; simp; omega
            rw [← hl5, List.take_left']; rfl
          refine ⟨_, _, rfl, rfl, ?_, (hch.setRow (.inl rfl) _).mono (fun c h => by have h : c = g := h; subst h; rfl), fun c h => h⟩
          rw [hbl]
          have hz5 := zeros5_len (ps.length - i)
          have hmul : (ps.length - i) * 5 = ps.length * 5 - i * 5 := Nat.sub_mul _ _ _
          have hi5 : i * 5 ≤ ps.length * 5 := Nat.mul_le_mul_right 5 (by omega)
          have hex2 := hex.out
          have hmul2 : (cap - ps.length) * 5 = cap * 5 - ps.length * 5 := Nat.sub_mul _ _ _
          have hcap5 : ps.length * 5 ≤ cap * 5 := Nat.mul_le_mul_right 5 hnc
          refine ⟨by rw [flat_length encM_len, hbl], .inr ⟨g, cap, _, rfl, hbg, hpr.setRow _, by omega, by unfold maxLen; exact hcm, ?_, ?_⟩⟩
          · simp only [List.size_toArray, List.length_append, List.length_take, List.length_drop, hfy, hz5]
            omega
          · rw [← htk]
            simp only []
            rw [List.append_assoc, List.take_left']
            rw [List.length_take, List.length_append, hfy]; omega
        generalize wr.setRow g ((flat encM ys ++ ex).take (i * 5) ++ zeros5 (ps.length - i) ++ (flat encM ys ++ ex).drop (i * 5 + (zeros5 (ps.length - i)).length)).toArray = w2 at hcl hfin
        replace hfin := hid hfin
        replace hh := hid hh
        replace hpr := hid hpr
        replace hlen := hid hlen
        replace hyl := hid hyl
        replace hfy := hid hfy
        have i1 : (i : Int) ≤ (ps.length : Int) := by omega
        go_wp2_with (at_builtin; refine wpList_clear_run rfl (.tmp 38) 41 rfl rfl (hcl _) ?_)
        go_ret
        exact hfin.out
section
variable {w w' : World} {M : Nat → Prop} {lb : Nat} {ln pl : Int} {ms : List Msg}
theorem szA (w : World) (o : Obj) : (w.alloc o).heap.size = w.heap.size + 1 := by simp
def ofM (k : Int) (ms : List Msg) : List Msg := ms.filter (fun m => m.lane == k)
theorem ofM_sort (k : Int) (ms : List Msg) : ofM k (sortM ms) = ofM k ms := sortL_row ms k
theorem other_filter (k : Int) (qs : List (Value × Msg)) : (qs.filter (fun p => !otherLane k p)).map Prod.snd = ofM k (qs.map Prod.snd) := by
  unfold ofM
  rw [List.filter_map]
  congr 1
  refine List.filter_congr (fun p _ => ?_)
  unfold otherLane
  simp only [Function.comp]
  cases h : (p.2.lane == k) <;> simp [bne, h]
def ResR (w : World) (ms : List Msg) (e : Ending) (w' : World) : Prop := ∃ v, e = .returned v ∧ MsgsR (fun b => w.heap.size ≤ b) w' v ms ∧ Below w.heap.size w w'
theorem all_r (h : LanesM w M lb ln pl ms) : Calls Try.prog 35 #[.pointer (some ⟨lb, 0, none⟩)] w (ResR w (sortM ms)) :=
  (all_c h).mono fun e w' ⟨v', qs, he, hq, ho, hw, hb⟩ => ⟨v', he, ⟨qs, hq, (MsgsAt.of_own ho hw).mono (fun b h _ => h) (fun b h _ => h.1)⟩, hb⟩
set_option maxHeartbeats 1000000 in
theorem of_c (h : LanesM w M lb ln pl ms) (k : Int) : Calls Try.prog 51 #[.pointer (some ⟨lb, 0, none⟩), .int .i64 k] w (ResR w (ofM k ms)) := by
  have hbA := (Below.refl w.heap.size w).alloc (Nat.le_refl _) (.cells #[.int .i64 k] 3)
  have hkA := pts.newA w #[.int .i64 k] 3
  have hall := all_c (h.below hbA)
  have hfin : Hid (∀ (w1 w2 : World) v1 qs v2 qs', Below (w.heap.size + 1) (w.alloc (.cells #[.int .i64 k] 3)) w1 → qs.map Prod.snd = sortM ms → w1.ownsRow (w.heap.size + 1) 37 5 v1 qs.length (flat encM qs) → WordsIn (fun b => w.heap.size + 1 ≤ b ∧ v1.ownBlock ≠ some b) w1 qs → qs' = qs.filter (fun p => !otherLane k p) → w2.ownsRow (w.heap.size + 1) 37 5 v2 qs'.length (flat encM qs') → Chg (fun c => v1.ownBlock = some c) w1 w2 → ResR w (ofM k ms) (.returned v2) w2) := hid fun w1 w2 v1 qs v2 qs' hb hq ho hw hqs ho2 hc => by
    have hB1 : Below w.heap.size w w1 := Below.next hbA (by simpa using hb) (by simp)
    refine ⟨v2, rfl, ⟨qs', by rw [hqs, other_filter, hq, ofM_sort], ?_⟩, hB1.trans (hc.toBelow hB1.size (fun i hi => by have := own_block_ge ho i hi; omega))⟩
    have hw2 : WordsIn (fun b => w.heap.size + 1 ≤ b ∧ v1.ownBlock ≠ some b) w2 qs' := by
      subst hqs
      exact (hw.sub (fun p hp => (List.mem_filter.1 hp).1)).kept hc.size (fun b hb hlt => hc.block b hlt hb.2)
    exact (MsgsAt.of_own ho2 hw2).mono (fun b h _ => by omega) (fun b h _ => by omega)
  replace hall := hid hall
  replace h := hid h
  have hbA := hid hbA
  replace hkA := hid hkA
  go_enter Try.func51, Try.ntmps51
  go_wp2_with (first | (go_at_call 35; (with_reducible refine (hall.out).mono ?_); rintro e w1 ⟨v1, qs, rfl, hq, ho, hw, hb⟩; have hkw := hkA.out.below hb; have hk0 := hkw.cell 0; have hkl := hkw.lt; simp only [List.getElem?_cons_zero] at hk0; simp only [szA] at ho hw hb; have hd := hid (deleteFunc_c ho hw hk0 hkl (fun e => by have := own_block_ge ho _ e; omega)); obtain ⟨a1, c1, rfl⟩ := own_shape ho; unfold FnOf at hd; replace hq := hid hq; replace ho := hid ho; replace hw := hid hw; replace hb := hid hb; clear hkw hk0) | (go_at_call 63; (with_reducible refine (hd.out).mono ?_); rintro e w2 ⟨v2, qs', rfl, hqs, ho2, hc2, -⟩; obtain ⟨a2, c2, rfl⟩ := own_shape ho2; have hf := hid (hfin.out _ _ _ _ _ _ hb.out hq.out ho.out hw.out hqs ho2 hc2); clear hqs ho2 hc2))
  go_ret
  exact hf.out
end
end Go.Proofs.Ytggfallodkbgcaa.La
