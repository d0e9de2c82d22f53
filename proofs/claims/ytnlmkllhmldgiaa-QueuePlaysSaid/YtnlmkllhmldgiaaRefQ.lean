/- DERIVED. The walks over the reference's port. No statement is proved here. -/
import Derived.Test.YtnlmkllhmldgiaaEngA
import Derived.Test.YtnlmkllhmldgiaaK6
import Derived.Test.YtnlmkllhmldgiaaK5
import Derived.Test.YtnlmkllhmldgiaaRefQP
import Derived.Test.YtnlmkllhmldgiaaRefMsg
namespace Go.Proofs.Ytnlmkllhmldgiaa.Rq
set_option linter.unusedVariables false
set_option linter.unusedSimpArgs false
open Go.RowKit Go.Proofs.Ytnlmkllhmldgiaa.K Go.Proofs.Ytnlmkllhmldgiaa.Lb Go.Proofs.Ytnlmkllhmldgiaa.Qu Go.Proofs.Ytnlmkllhmldgiaa.Gt
def encQ (e : Int × Int) : List Value := [.int .i64 e.1, .int .i64 e.2]
theorem encQ_len (e : Int × Int) : (encQ e).length = 2 := rfl
theorem encQ_one (e : Int × Int) : ∀ u ∈ encQ e, u.oneCell' = true := by
  intro u hu
  simp only [encQ, List.mem_cons, List.not_mem_nil, or_false] at hu
  rcases hu with rfl | rfl <;> rfl
theorem elW : ElemOk Try.prog 54 80 2 16 := .mk' (z := .agg #[.int .i64 0, .int .i64 0]) Try.underlying54 (by kernel_rfl) rfl (by decide)
theorem elI : ElemOk Try.prog 22 3 1 8 := .mk' (z := .int .i64 0) Try.underlying22 (by kernel_rfl) rfl (by decide)
theorem elM : ElemOk Try.prog 44 27 5 56 := .mk' (z := .agg #[.slice none 0 0, .int .i64 0, .int .i64 0, .int .i64 0, .int .i64 0]) Try.underlying44 (by kernel_rfl) rfl (by decide)
abbrev QAt := RowAt encQ 2
theorem not_take {l : List (Int × Int)} {j : Nat} {x : Int} (hlt : j < l.length) (hn : x ∉ (l.take j).map Prod.fst) (he : l[j].1 ≠ x) : x ∉ (l.take (j + 1)).map Prod.fst := by
  rw [List.take_succ_eq_append_getElem hlt, List.map_append, List.mem_append]
  rintro (h | h)
  · exact hn h
  · simp at h; exact he h.symm
section
variable {ok okw : Nat → Prop} {w : World} {v : Value} {l : List (Int × Int)} {ps : List (Value × Msg)} {al aw : Option Addr} {nl cl cw : Nat}
theorem QAt.cells {ao : Option Addr} {n cap : Nat} (h : QAt ok w (.slice ao n cap) l) {i : Nat} (hi : i < l.length) : ∃ g o, ao = some ⟨g, o, none⟩ ∧ ok g ∧ g < w.heap.size ∧ w.cell? ⟨g, o + i * 2, none⟩ = some (.int .i64 l[i].1) ∧ w.cell? ⟨g, o + i * 2 + 1, none⟩ = some (.int .i64 l[i].2) := by
  obtain ⟨-, -, -, hg⟩ := h.get
  obtain ⟨g, o, e, h1, h2, hc⟩ := hg i hi
  exact ⟨g, o, e, h1, h2, hc 0 (by omega), hc 1 (by omega)⟩
theorem QAt.cellsAt {g o n cap : Nat} {ao : Option Addr} (h : QAt ok w (.slice ao n cap) l) (ea : ao = some ⟨g, o, none⟩) {i : Nat} (hi : i < l.length) : w.cell? ⟨g, o + i * 2, none⟩ = some (.int .i64 l[i].1) ∧ w.cell? ⟨g, o + i * 2 + 1, none⟩ = some (.int .i64 l[i].2) := by
  obtain ⟨g', o', e, -, -, h1, h2⟩ := h.cells hi
  rw [ea] at e
  simp only [Option.some.injEq, Addr.mk.injEq, and_true] at e
  obtain ⟨rfl, rfl⟩ := e
  exact ⟨h1, h2⟩
theorem msg5 {g o n cap i : Nat} {ao a : Option Addr} {c k : Nat} (h : MsgsAt ok okw w (.slice ao n cap) ps) (ea : ao = some ⟨g, o, none⟩) (hi : i < ps.length) (hpe : ps[i] = (.slice a k c, ps[i].2)) : At5 w g (o + i * 5) (.slice a k c) ps[i].2 := by
  obtain ⟨g', o', a', c', e, -, hpe', hat, -⟩ := h.at5 hi
  rw [ea] at e
  simp only [Option.some.injEq, Addr.mk.injEq, and_true] at e
  obtain ⟨rfl, rfl⟩ := e
  rw [hpe'] at hpe
  simp only [Prod.mk.injEq, and_true] at hpe
  rw [← hpe]; exact hat
set_option maxRecDepth 100000 in
theorem qwaits_c (h : QAt ok w (.slice aw l.length cw) l) (hold x : Int) : Calls Try.prog 31 #[.agg #[.int .i64 hold, .slice al ps.length cl, .slice aw l.length cw], .int .i64 x] w fun e w' => e = .returned (.bool (decide (x ∈ l.map Prod.fst))) ∧ Below w.heap.size w w' := by
  obtain ⟨-, hlc, hcm, -⟩ := h.get
  replace h := h.mono (ok' := fun x => x < w.heap.size) (fun _ _ hl => hl)
  -- WALK ref18 waits
  refine E.enter (l := [.agg #[.int .i64 hold, .slice al ps.length cl, .slice aw l.length cw], .int .i64 x]) Try.func31 rfl 21 rfl rfl ?_
  intro a hF
  simp only [E.args] at hF
  have hC := Chg.refl (fun _ => False) w
  refine wp_seq_k fun K1 hK1 => ?_
  refine wp_region_lit ?_  -- R0
  refine E.val (d := 2) (v := .pointer (some ⟨w.heap.size, 0, none⟩)) (w' := w.alloc (.cells #[.int .i64 hold, .slice al ps.length cl, .slice aw l.length cw] 56)) rfl rfl rfl hF (by have e0 : a.tmps[0]?.getD undef = .agg #[.int .i64 hold, .slice al ps.length cl, .slice aw l.length cw] := hF.at 0 rfl; simp [go_sem, e0]) ?_
  clear hF a; intro a hF
  have hb1 := (Below.refl w.heap.size w).alloc (Nat.le_refl _) (.cells #[.int .i64 hold, .slice al ps.length cl, .slice aw l.length cw] 56)
  have p2 : pts (w.alloc (.cells #[.int .i64 hold, .slice al ps.length cl, .slice aw l.length cw] 56)) (w.heap.size) [.int .i64 hold, .slice al ps.length cl, .slice aw l.length cw] 56 := pts.newA w #[.int .i64 hold, .slice al ps.length cl, .slice aw l.length cw] 56
  have z2 : w.heap.size < (w.alloc (.cells #[.int .i64 hold, .slice al ps.length cl, .slice aw l.length cw] 56)).heap.size := by simp
  replace h := h.below hb1
  replace hC := hC.below hb1
  clear hb1; generalize w.alloc (.cells #[.int .i64 hold, .slice al ps.length cl, .slice aw l.length cw] 56) = w3 at p2 z2 hC h ⊢
  refine E.val (d := 4) (v := .bool false) (w' := w3) rfl rfl rfl hF (by exact E.xAsC rfl) ?_
  clear hF a; intro a hF
  refine wpList_nil ?_
  refine E.then_norm (hK1 _ _ ?_)
  refine wp_seq_k fun K2 hK2 => ?_
  refine wp_seq_k fun K3 hK3 => ?_
  refine wp_region_lit ?_  -- R1
  refine E.val (d := 5) (v := .int .i64 0) (w' := w3) rfl rfl rfl hF (by exact E.xAsC rfl) ?_
  clear hF a; intro a hF
  refine wpList_nil ?_
  refine E.then_norm (hK3 _ _ ?_)
  refine wp_block ?_
  refine wp_loop_ghost (fun g a wr => ∃ (j : Nat), (g = l.length - j) ∧ (E.Fr 21 [(5, .int .i64 (j : Int)), (2, .pointer (some ⟨w.heap.size, 0, none⟩)), (1, .int .i64 x)] a) ∧ (Chg (fun _ => False) w wr) ∧ (w3.heap.size ≤ wr.heap.size) ∧ (QAt (fun x => x < w.heap.size) wr (.slice aw l.length cw) l) ∧ (pts wr (w.heap.size) [.int .i64 hold, .slice al ps.length cl, .slice aw l.length cw] 56) ∧ (j ≤ l.length) ∧ (x ∉ (l.take j).map Prod.fst)) _ ⟨0, rfl, hF.sub (by exact ⟨rfl, rfl, rfl, trivial⟩), hC, Nat.le_refl _, h, p2, Nat.zero_le _, by simp⟩ ?_
  clear hF a hC h p2
  rintro g a wr ⟨j, rfl, hF, hC, z4, h, p2, hj, hn⟩
  refine wp_seq_k fun K4 hK4 => ?_
  refine wp_seq_k fun K5 hK5 => ?_
  refine wp_region_lit ?_  -- R2
  refine E.val (d := 6) (v := .int .i64 (j : Int)) (w' := wr) rfl rfl rfl hF (by exact E.xMv rfl (hF.at 5 rfl)) ?_
  clear hF a; intro a hF
  refine E.val (d := 7) (v := .pointer (some ⟨w.heap.size, 2, none⟩)) (w' := wr) rfl rfl rfl hF (by have e2 : a.tmps[2]?.getD undef = .pointer (some ⟨w.heap.size, 0, none⟩) := hF.at 2 rfl; simp [go_sem, e2]) ?_
  clear hF a; intro a hF
  refine E.val (d := 8) (v := .slice aw l.length cw) (w' := wr) rfl rfl rfl hF (by have c2 : wr.cell? ⟨w.heap.size, 2, none⟩ = some (.slice aw l.length cw) := p2.cell 2; have e7 : a.tmps[7]?.getD undef = .pointer (some ⟨w.heap.size, 2, none⟩) := hF.at 7 rfl; simp [go_sem, e7, c2]) ?_
  clear hF a; intro a hF
  refine E.val (d := 9) (v := .int .i64 (l.length : Int)) (w' := wr) rfl rfl rfl hF (by have e8 : a.tmps[8]?.getD undef = .slice aw l.length cw := hF.at 8 rfl; simp [go_sem, e8]) ?_
  clear hF a; intro a hF
  refine E.val (d := 10) (v := .bool (decide ((j : Int) < (l.length : Int)))) (w' := wr) rfl rfl rfl hF (by have e6 : a.tmps[6]?.getD undef = .int .i64 (j : Int) := hF.at 6 rfl; have e9 : a.tmps[9]?.getD undef = .int .i64 (l.length : Int) := hF.at 9 rfl; simp [go_sem, e6, e9]) ?_
  clear hF a; intro a hF
  refine wpList_nil ?_
  refine E.then_norm (hK5 _ _ ?_)
  rcases E.bsplit (decide ((j : Int) < (l.length : Int))) with hc5 | hc5
  ·
    have hlt : j < l.length := by have := of_decide_eq_true hc5; omega
    obtain ⟨g, o, ea, -, hg, c0, c1⟩ := QAt.cells h hlt
    refine E.condT rfl (((hF.at 10 rfl).trans (congrArg Value.bool hc5))) ?_
    refine wp_skip ?_
    refine E.then_norm (hK4 _ _ ?_)
    refine wp_seq_k fun K6 hK6 => ?_
    refine wp_block ?_
    refine wp_seq_k fun K7 hK7 => ?_
    refine wp_region_lit ?_  -- R4
    refine E.val (d := 13) (v := .pointer (some ⟨w.heap.size, 2, none⟩)) (w' := wr) rfl rfl rfl hF (by have e2 : a.tmps[2]?.getD undef = .pointer (some ⟨w.heap.size, 0, none⟩) := hF.at 2 rfl; simp [go_sem, e2]) ?_
    clear hF a; intro a hF
    refine E.val (d := 14) (v := .slice aw l.length cw) (w' := wr) rfl rfl rfl hF (by have c2 : wr.cell? ⟨w.heap.size, 2, none⟩ = some (.slice aw l.length cw) := p2.cell 2; have e13 : a.tmps[13]?.getD undef = .pointer (some ⟨w.heap.size, 2, none⟩) := hF.at 13 rfl; simp [go_sem, e13, c2]) ?_
    clear hF a; intro a hF
    refine E.val (d := 15) (v := .int .i64 (j : Int)) (w' := wr) rfl rfl rfl hF (by exact E.xMv rfl (hF.at 5 rfl)) ?_
    clear hF a; intro a hF
    refine E.val (d := 16) (v := .pointer (some ⟨g, o + j * 2, none⟩)) (w' := wr) rfl rfl rfl hF (by exact E.xIdx (x := .tmp 15) (i := j) (ofs := o) (k := 2) rfl (by have e := hF.at 14 rfl; rw [ea] at e; exact e) ((E.ev_of (hF.at 15 rfl))) Try.underlying54 (by kernel_rfl) (by omega)) ?_
    clear hF a; intro a hF
    refine E.val (d := 17) (v := .pointer (some ⟨g, o + j * 2, none⟩)) (w' := wr) rfl rfl rfl hF (by have e16 : a.tmps[16]?.getD undef = .pointer (some ⟨g, o + j * 2, none⟩) := hF.at 16 rfl; simp [go_sem, e16]) ?_
    clear hF a; intro a hF
    refine E.val (d := 18) (v := .int .i64 (l[j].1)) (w' := wr) rfl rfl rfl hF (by have c0 : wr.cell? ⟨g, o + j * 2, none⟩ = some (.int .i64 (l[j].1)) := (QAt.cellsAt h ea hlt).1; have e17 : a.tmps[17]?.getD undef = .pointer (some ⟨g, o + j * 2, none⟩) := hF.at 17 rfl; simp [go_sem, e17, c0]) ?_
    clear hF a; intro a hF
    refine E.val (d := 19) (v := .int .i64 x) (w' := wr) rfl rfl rfl hF (by exact E.xMv rfl (hF.at 1 rfl)) ?_
    clear hF a; intro a hF
    refine E.val (d := 20) (v := .bool ((l[j].1) == x)) (w' := wr) rfl rfl rfl hF (by have e18 : a.tmps[18]?.getD undef = .int .i64 (l[j].1) := hF.at 18 rfl; have e19 : a.tmps[19]?.getD undef = .int .i64 x := hF.at 19 rfl; simp [go_sem, e18, e19]) ?_
    clear hF a; intro a hF
    refine wpList_nil ?_
    replace hF := hF.sub (m' := [(20, .bool ((l[j].1) == x)), (5, .int .i64 (j : Int)), (2, .pointer (some ⟨w.heap.size, 0, none⟩)), (1, .int .i64 x)]) ⟨rfl, rfl, rfl, rfl, trivial⟩
    refine E.then_norm (hK7 _ _ ?_)
    rcases E.bsplit ((l[j].1) == x) with hc6 | hc6
    ·
      have hin : x ∈ l.map Prod.fst := List.mem_map.2 ⟨l[j], List.getElem_mem hlt, by simpa using hc6⟩
      refine E.condT rfl (((hF.at 20 rfl).trans (congrArg Value.bool hc6))) ?_
      refine wp_seq_k fun K8 hK8 => ?_
      refine wp_region_lit ?_  -- R5
      refine E.val (d := 4) (v := .bool true) (w' := wr) rfl rfl rfl hF (by exact E.xAsC rfl) ?_
      clear hF a; intro a hF
      refine wpList_nil ?_
      refine E.then_norm (hK8 _ _ ?_)
      refine wp_ret ?_
      refine E.in_ret ?_
      refine E.then_ret ?_
      refine E.then_ret ?_
      refine E.in_ret ?_
      refine E.then_ret ?_
      refine E.ret (v := .bool true) hF (by have e4 : a.tmps[4]?.getD undef = .bool true := hF.at 4 rfl; simp [results, Try.results31, go_sem, e4]) ?_
      exact ⟨by rw [decide_eq_true hin], E.below_of hC⟩
    ·
      have hn' := not_take hlt hn (by simpa using hc6)
      refine E.condF rfl (((hF.at 20 rfl).trans (congrArg Value.bool hc6))) ?_
      refine wp_skip ?_
      refine E.in_norm ?_
      refine E.then_norm (hK6 _ _ ?_)
      refine wp_region_lit ?_  -- R3
      refine E.val (d := 11) (v := .int .i64 (j : Int)) (w' := wr) rfl rfl rfl hF (by exact E.xMv rfl (hF.at 5 rfl)) ?_
      clear hF a; intro a hF
      refine E.val (d := 12) (v := .int .i64 ((j : Int) + 1)) (w' := wr) rfl rfl rfl hF (by have hr : IntKind.i64.wrap ((j : Int) + 1) = (j : Int) + 1 := E.wrapI (by omega) (by omega); have e11 : a.tmps[11]?.getD undef = .int .i64 (j : Int) := hF.at 11 rfl; simp [go_sem, e11, hr]) ?_
      clear hF a; intro a hF
      refine E.val (d := 5) (v := .int .i64 ((j : Int) + 1)) (w' := wr) rfl rfl rfl hF (by exact E.xAs rfl (hF.at 12 rfl)) ?_
      clear hF a; intro a hF
      refine wpList_nil ?_
      refine E.then_norm ?_
      exact ⟨_, by omega, j + 1, rfl, hF.sub (by exact ⟨rfl, rfl, rfl, trivial⟩), hC, by omega, h, p2, by omega, hn'⟩
  ·
    have hje : j = l.length := by have := of_decide_eq_false hc5; omega
    refine E.condF rfl (((hF.at 10 rfl).trans (congrArg Value.bool hc5))) ?_
    refine wp_exit ?_
    refine E.then_exit ?_
    refine E.then_exit ?_
    refine E.exit_in ?_
    replace hF := hF.sub (m' := []) trivial
    refine E.then_norm (hK2 _ _ ?_)
    refine wp_seq_k fun K9 hK9 => ?_
    refine wp_region_lit ?_  -- R6
    refine E.val (d := 4) (v := .bool false) (w' := wr) rfl rfl rfl hF (by exact E.xAsC rfl) ?_
    clear hF a; intro a hF
    refine wpList_nil ?_
    refine E.then_norm (hK9 _ _ ?_)
    refine wp_ret ?_
    refine E.ret (v := .bool false) hF (by have e4 : a.tmps[4]?.getD undef = .bool false := hF.at 4 rfl; simp [results, Try.results31, go_sem, e4]) ?_
    exact ⟨by rw [decide_eq_false (by rwa [hje, List.take_length] at hn)], E.below_of hC⟩
  -- KLAW
set_option maxRecDepth 100000 in
theorem qwaiting_c (h : QAt ok w (.slice aw l.length cw) l) (hsm : l.length < 100000) (hold : Int) : Calls Try.prog 30 #[.agg #[.int .i64 hold, .slice al ps.length cl, .slice aw l.length cw]] w fun e w' => ∃ v', e = .returned v' ∧ IntsAt (fun b => w.heap.size ≤ b) w' v' (l.map Prod.fst) ∧ Below w.heap.size w w' := by
  obtain ⟨-, hlc, hcm, -⟩ := h.get
  replace h := h.mono (ok' := fun x => x < w.heap.size) (fun _ _ hl => hl)
  -- WALK ref18 waiting
  refine E.enter (l := [.agg #[.int .i64 hold, .slice al ps.length cl, .slice aw l.length cw]]) Try.func30 rfl 22 rfl rfl ?_
  intro a hF
  simp only [E.args] at hF
  have hC := Chg.refl (fun _ => False) w
  refine wp_seq_k fun K1 hK1 => ?_
  refine wp_region_lit ?_  -- R0
  refine E.val (d := 1) (v := .pointer (some ⟨w.heap.size, 0, none⟩)) (w' := w.alloc (.cells #[.int .i64 hold, .slice al ps.length cl, .slice aw l.length cw] 56)) rfl rfl rfl hF (by have e0 : a.tmps[0]?.getD undef = .agg #[.int .i64 hold, .slice al ps.length cl, .slice aw l.length cw] := hF.at 0 rfl; simp [go_sem, e0]) ?_
  clear hF a; intro a hF
  have hb1 := (Below.refl w.heap.size w).alloc (Nat.le_refl _) (.cells #[.int .i64 hold, .slice al ps.length cl, .slice aw l.length cw] 56)
  have p1 : pts (w.alloc (.cells #[.int .i64 hold, .slice al ps.length cl, .slice aw l.length cw] 56)) (w.heap.size) [.int .i64 hold, .slice al ps.length cl, .slice aw l.length cw] 56 := pts.newA w #[.int .i64 hold, .slice al ps.length cl, .slice aw l.length cw] 56
  have z2 : w.heap.size < (w.alloc (.cells #[.int .i64 hold, .slice al ps.length cl, .slice aw l.length cw] 56)).heap.size := by simp
  replace h := h.below hb1
  replace hC := hC.below hb1
  clear hb1; generalize w.alloc (.cells #[.int .i64 hold, .slice al ps.length cl, .slice aw l.length cw] 56) = w3 at p1 z2 hC h ⊢
  refine E.val (d := 2) (v := .slice none 0 0) (w' := w3) rfl rfl rfl hF (by exact E.xAsC rfl) ?_
  clear hF a; intro a hF
  refine wpList_nil ?_
  refine E.then_norm (hK1 _ _ ?_)
  refine wp_seq_k fun K2 hK2 => ?_
  refine wp_region_lit ?_  -- R1
  refine E.val (d := 3) (v := .slice none 0 0) (w' := w3) rfl rfl rfl hF (by exact E.xAsC rfl) ?_
  clear hF a; intro a hF
  refine wpList_nil ?_
  have o3 : w3.ownsRow (w3.heap.size) 3 1 (.slice none 0 0) ([] : List (Int)).length (flat E.encI []) := E.own_nil E.encI _ _ _ _
  refine E.then_norm (hK2 _ _ ?_)
  refine wp_seq_k fun K3 hK3 => ?_
  refine wp_seq_k fun K4 hK4 => ?_
  refine wp_region_lit ?_  -- R2
  refine E.val (d := 4) (v := .int .i64 0) (w' := w3) rfl rfl rfl hF (by exact E.xAsC rfl) ?_
  clear hF a; intro a hF
  refine wpList_nil ?_
  refine E.then_norm (hK4 _ _ ?_)
  refine wp_block ?_
  refine wp_loop_ghost (fun g a wr => ∃ (j : Nat) (ra_o3 : Option Addr) (rc_o3 : Nat), (g = l.length - j) ∧ (E.Fr 22 [(4, .int .i64 (j : Int)), (3, .slice ra_o3 (((l.take j).map Prod.fst).length) rc_o3), (1, .pointer (some ⟨w.heap.size, 0, none⟩))] a) ∧ (Chg (fun _ => False) w wr) ∧ (w3.heap.size ≤ wr.heap.size) ∧ (QAt (fun x => x < w.heap.size) wr (.slice aw l.length cw) l) ∧ (pts wr (w.heap.size) [.int .i64 hold, .slice al ps.length cl, .slice aw l.length cw] 56) ∧ (wr.ownsRow (w3.heap.size) 3 1 (.slice ra_o3 (((l.take j).map Prod.fst).length) rc_o3) ((l.take j).map Prod.fst).length (flat E.encI ((l.take j).map Prod.fst))) ∧ (j ≤ l.length)) _ ⟨0, none, 0, rfl, hF.sub (by exact ⟨rfl, rfl, rfl, trivial⟩), hC, Nat.le_refl _, h, p1, o3, Nat.zero_le _⟩ ?_
  clear hF a hC h p1 o3
  rintro g a wr ⟨j, ra_o3, rc_o3, rfl, hF, hC, z4, h, p1, o3, hj⟩
  refine wp_seq_k fun K5 hK5 => ?_
  refine wp_seq_k fun K6 hK6 => ?_
  refine wp_region_lit ?_  -- R3
  refine E.val (d := 5) (v := .int .i64 (j : Int)) (w' := wr) rfl rfl rfl hF (by exact E.xMv rfl (hF.at 4 rfl)) ?_
  clear hF a; intro a hF
  refine E.val (d := 6) (v := .pointer (some ⟨w.heap.size, 2, none⟩)) (w' := wr) rfl rfl rfl hF (by have e1 : a.tmps[1]?.getD undef = .pointer (some ⟨w.heap.size, 0, none⟩) := hF.at 1 rfl; simp [go_sem, e1]) ?_
  clear hF a; intro a hF
  refine E.val (d := 7) (v := .slice aw l.length cw) (w' := wr) rfl rfl rfl hF (by have c2 : wr.cell? ⟨w.heap.size, 2, none⟩ = some (.slice aw l.length cw) := p1.cell 2; have e6 : a.tmps[6]?.getD undef = .pointer (some ⟨w.heap.size, 2, none⟩) := hF.at 6 rfl; simp [go_sem, e6, c2]) ?_
  clear hF a; intro a hF
  refine E.val (d := 8) (v := .int .i64 (l.length : Int)) (w' := wr) rfl rfl rfl hF (by have e7 : a.tmps[7]?.getD undef = .slice aw l.length cw := hF.at 7 rfl; simp [go_sem, e7]) ?_
  clear hF a; intro a hF
  refine E.val (d := 9) (v := .bool (decide ((j : Int) < (l.length : Int)))) (w' := wr) rfl rfl rfl hF (by have e5 : a.tmps[5]?.getD undef = .int .i64 (j : Int) := hF.at 5 rfl; have e8 : a.tmps[8]?.getD undef = .int .i64 (l.length : Int) := hF.at 8 rfl; simp [go_sem, e5, e8]) ?_
  clear hF a; intro a hF
  refine wpList_nil ?_
  refine E.then_norm (hK6 _ _ ?_)
  rcases E.bsplit (decide ((j : Int) < (l.length : Int))) with hc5 | hc5
  ·
    have hlt : j < l.length := by have := of_decide_eq_true hc5; omega
    obtain ⟨g, o, ea, -, hg, c0, c1⟩ := QAt.cells h hlt
    refine E.condT rfl (((hF.at 9 rfl).trans (congrArg Value.bool hc5))) ?_
    refine wp_skip ?_
    refine E.then_norm (hK5 _ _ ?_)
    refine wp_seq_k fun K7 hK7 => ?_
    refine wp_block ?_
    refine wp_region_lit ?_  -- R5
    refine E.val (d := 12) (v := .slice ra_o3 (((l.take j).map Prod.fst).length) rc_o3) (w' := wr) rfl rfl rfl hF (by exact E.xMv rfl (hF.at 3 rfl)) ?_
    clear hF a; intro a hF
    refine E.val (d := 13) (v := .pointer (some ⟨w.heap.size, 2, none⟩)) (w' := wr) rfl rfl rfl hF (by have e1 : a.tmps[1]?.getD undef = .pointer (some ⟨w.heap.size, 0, none⟩) := hF.at 1 rfl; simp [go_sem, e1]) ?_
    clear hF a; intro a hF
    refine E.val (d := 14) (v := .slice aw l.length cw) (w' := wr) rfl rfl rfl hF (by have c2 : wr.cell? ⟨w.heap.size, 2, none⟩ = some (.slice aw l.length cw) := p1.cell 2; have e13 : a.tmps[13]?.getD undef = .pointer (some ⟨w.heap.size, 2, none⟩) := hF.at 13 rfl; simp [go_sem, e13, c2]) ?_
    clear hF a; intro a hF
    refine E.val (d := 15) (v := .int .i64 (j : Int)) (w' := wr) rfl rfl rfl hF (by exact E.xMv rfl (hF.at 4 rfl)) ?_
    clear hF a; intro a hF
    refine E.val (d := 16) (v := .pointer (some ⟨g, o + j * 2, none⟩)) (w' := wr) rfl rfl rfl hF (by exact E.xIdx (x := .tmp 15) (i := j) (ofs := o) (k := 2) rfl (by have e := hF.at 14 rfl; rw [ea] at e; exact e) ((E.ev_of (hF.at 15 rfl))) Try.underlying54 (by kernel_rfl) (by omega)) ?_
    clear hF a; intro a hF
    refine E.val (d := 17) (v := .pointer (some ⟨g, o + j * 2, none⟩)) (w' := wr) rfl rfl rfl hF (by have e16 : a.tmps[16]?.getD undef = .pointer (some ⟨g, o + j * 2, none⟩) := hF.at 16 rfl; simp [go_sem, e16]) ?_
    clear hF a; intro a hF
    refine E.val (d := 18) (v := .int .i64 (l[j].1)) (w' := wr) rfl rfl rfl hF (by have c0 : wr.cell? ⟨g, o + j * 2, none⟩ = some (.int .i64 (l[j].1)) := (QAt.cellsAt h ea hlt).1; have e17 : a.tmps[17]?.getD undef = .pointer (some ⟨g, o + j * 2, none⟩) := hF.at 17 rfl; simp [go_sem, e17, c0]) ?_
    clear hF a; intro a hF
    refine E.val (d := 19) (v := .slice (some ⟨wr.heap.size, 0, none⟩) 1 1) (w' := wr.alloc (.cells #[.int .i64 (l[j].1)] 3)) rfl rfl rfl hF (by have e18 : a.tmps[18]?.getD undef = .int .i64 (l[j].1) := hF.at 18 rfl; simp [go_sem, e18]) ?_
    clear hF a; intro a hF
    have hb6 := (Below.refl wr.heap.size wr).alloc (Nat.le_refl _) (.cells #[.int .i64 (l[j].1)] 3)
    have p19 : pts (wr.alloc (.cells #[.int .i64 (l[j].1)] 3)) (wr.heap.size) [.int .i64 (l[j].1)] 3 := pts.newA wr #[.int .i64 (l[j].1)] 3
    have z7 : wr.heap.size < (wr.alloc (.cells #[.int .i64 (l[j].1)] 3)).heap.size := by simp
    have ne9 : ∀ x, (Value.slice ra_o3 (((l.take j).map Prod.fst).length) rc_o3).ownBlock = some x → x ≠ wr.heap.size := fun x hx e => by have := K.own_lt o3 hx; omega
    replace h := h.below hb6
    replace p1 := p1.below hb6
    replace o3 := K.own_of o3 (fun x hx => hb6.block x (K.own_lt o3 hx))
    replace hC := hC.below hb6
    clear hb6; generalize wr.alloc (.cells #[.int .i64 (l[j].1)] 3) = w8 at p19 z7 hC h p1 o3 ⊢
    refine E.push (enc := E.encI) (y := l[j].1) elI hF rfl rfl rfl 12 19 rfl (hF.at 12 rfl) o3 (by omega) (hF.at 19 rfl) p19 rfl (by intro u hu; simp only [E.encI, List.mem_cons, List.not_mem_nil, or_false] at hu; rcases hu with rfl <;> rfl) (by first | omega | (simp; omega)) (by omega) ?_
    rintro ra10 rc11 w14 o3' hg12 ho13
    have hc15 := E.chg_grown hg12; have z16 := hc15.size
    clear hF a; intro a hF
    replace h := h.kept hc15.size (fun x hx hl => hc15.block x hl (fun hn => by have := own_block_ge o3 x hn; (try dsimp only at hx); omega))
    replace p1 := p1.chg hc15 (fun e => by have := own_block_ge o3 _ e; omega)
    replace hC := hC.trans hc15 (fun x hx => .inr (by have := own_block_ge o3 x hx; omega))
    replace o3 := o3'; clear hc15 hg12 ho13 
    refine E.val (d := 3) (v := .slice ra10 (((l.take j).map Prod.fst ++ [l[j].1]).length) rc11) (w' := w14) rfl rfl rfl hF (by exact E.xAs rfl (hF.at 20 rfl)) ?_
    clear hF a; intro a hF
    refine wpList_nil ?_
    refine E.in_norm ?_
    replace hF := hF.sub (m' := [(3, .slice ra10 (((l.take j).map Prod.fst ++ [l[j].1]).length) rc11), (4, .int .i64 (j : Int)), (1, .pointer (some ⟨w.heap.size, 0, none⟩))]) ⟨rfl, rfl, rfl, trivial⟩
    refine E.then_norm (hK7 _ _ ?_)
    refine wp_region_lit ?_  -- R4
    refine E.val (d := 10) (v := .int .i64 (j : Int)) (w' := w14) rfl rfl rfl hF (by exact E.xMv rfl (hF.at 4 rfl)) ?_
    clear hF a; intro a hF
    refine E.val (d := 11) (v := .int .i64 ((j : Int) + 1)) (w' := w14) rfl rfl rfl hF (by have hr : IntKind.i64.wrap ((j : Int) + 1) = (j : Int) + 1 := E.wrapI (by omega) (by omega); have e10 : a.tmps[10]?.getD undef = .int .i64 (j : Int) := hF.at 10 rfl; simp [go_sem, e10, hr]) ?_
    clear hF a; intro a hF
    refine E.val (d := 4) (v := .int .i64 ((j : Int) + 1)) (w' := w14) rfl rfl rfl hF (by exact E.xAs rfl (hF.at 11 rfl)) ?_
    clear hF a; intro a hF
    refine wpList_nil ?_
    refine E.then_norm ?_
    have hl17 : ((l.take j).map Prod.fst ++ [l[j].1]) = (l.take (j + 1)).map Prod.fst := by rw [List.take_succ_eq_append_getElem hlt, List.map_append]; rfl
    rw [hl17] at o3 hF 
    clear hl17
    exact ⟨_, by omega, j + 1, ra10, rc11, rfl, hF.sub (by exact ⟨rfl, rfl, rfl, trivial⟩), hC, by omega, h, p1, o3, by omega⟩
  ·
    have hje : j = l.length := by have := of_decide_eq_false hc5; omega
    refine E.condF rfl (((hF.at 9 rfl).trans (congrArg Value.bool hc5))) ?_
    refine wp_exit ?_
    refine E.then_exit ?_
    refine E.then_exit ?_
    refine E.exit_in ?_
    replace hF := hF.sub (m' := [(3, .slice ra_o3 (((l.take j).map Prod.fst).length) rc_o3)]) ⟨rfl, trivial⟩
    refine E.then_norm (hK3 _ _ ?_)
    refine wp_seq_k fun K8 hK8 => ?_
    refine wp_region_lit ?_  -- R6
    refine E.val (d := 21) (v := .slice ra_o3 (((l.take j).map Prod.fst).length) rc_o3) (w' := wr) rfl rfl rfl hF (by exact E.xMv rfl (hF.at 3 rfl)) ?_
    clear hF a; intro a hF
    refine E.val (d := 2) (v := .slice ra_o3 (((l.take j).map Prod.fst).length) rc_o3) (w' := wr) rfl rfl rfl hF (by exact E.xAs rfl (hF.at 21 rfl)) ?_
    clear hF a; intro a hF
    refine wpList_nil ?_
    refine E.then_norm (hK8 _ _ ?_)
    refine wp_ret ?_
    refine E.ret (v := .slice ra_o3 (((l.take j).map Prod.fst).length) rc_o3) hF (by have e2 : a.tmps[2]?.getD undef = .slice ra_o3 (((l.take j).map Prod.fst).length) rc_o3 := hF.at 2 rfl; simp [results, Try.results30, go_sem, e2]) ?_
    rw [hje, List.take_length] at o3 ⊢; exact ⟨_, rfl, (K.IntsAt.of_own (by rw [← E.flat_encI]; exact o3)).mono (fun x hx _ => by omega), E.below_of hC⟩
  -- KLAW
def PutRow (w : World) (ok : Nat → Prop) (hold : Int) (lv : Value) (x : Int) (r : List (Int × Int)) (e : Ending) (w' : World) : Prop :=
  ∃ wv, e = .returned (.tuple #[.agg #[.int .i64 hold, lv, wv], .int .i64 x, .bool true, .int .i64 0]) ∧ QAt ok w' wv r ∧ Below w.heap.size w w'
set_option maxRecDepth 100000 in
theorem qput_row (h : QAt ok w (.slice aw l.length cw) l) (hm : MsgsAt ok okw w (.slice al ps.length cl) ps) (hl : 0 < l.length) (hold : Int) (am : Option Addr) (cm : Nat) (m : Msg) : Calls Try.prog 26 #[.agg #[.int .i64 hold, .slice al ps.length cl, .slice aw l.length cw], .agg #[.slice am m.words.length cm, .int .i64 m.lane, .int .i64 m.stamp, .int .i64 m.late, .int .i64 m.seq]] w (PutRow w ok hold (.slice al ps.length cl) l[0].1 (l.drop 1)) := by
  have h0 := h
  obtain ⟨-, hlc, hcm, -⟩ := h.get
  replace h := h.mono (ok' := fun x => x < w.heap.size) (fun _ _ hl => hl)
  replace hm := hm.mono (ok' := fun x => x < w.heap.size) (okw' := fun x => x < w.heap.size) (fun _ _ hl => hl) (fun _ _ hl => hl)
  -- WALK ref18 put_row
  refine E.enter (l := [.agg #[.int .i64 hold, .slice al ps.length cl, .slice aw l.length cw], .agg #[.slice am m.words.length cm, .int .i64 m.lane, .int .i64 m.stamp, .int .i64 m.late, .int .i64 m.seq]]) Try.func26 rfl 42 rfl rfl ?_
  intro a hF
  simp only [E.args] at hF
  have hC := Chg.refl (fun _ => False) w
  refine wp_seq_k fun K1 hK1 => ?_
  refine wp_region_lit ?_  -- R0
  refine E.val (d := 2) (v := .pointer (some ⟨w.heap.size, 0, none⟩)) (w' := w.alloc (.cells #[.int .i64 hold, .slice al ps.length cl, .slice aw l.length cw] 56)) rfl rfl rfl hF (by have e0 : a.tmps[0]?.getD undef = .agg #[.int .i64 hold, .slice al ps.length cl, .slice aw l.length cw] := hF.at 0 rfl; simp [go_sem, e0]) ?_
  clear hF a; intro a hF
  have hb1 := (Below.refl w.heap.size w).alloc (Nat.le_refl _) (.cells #[.int .i64 hold, .slice al ps.length cl, .slice aw l.length cw] 56)
  have p2 : pts (w.alloc (.cells #[.int .i64 hold, .slice al ps.length cl, .slice aw l.length cw] 56)) (w.heap.size) [.int .i64 hold, .slice al ps.length cl, .slice aw l.length cw] 56 := pts.newA w #[.int .i64 hold, .slice al ps.length cl, .slice aw l.length cw] 56
  have z2 : w.heap.size < (w.alloc (.cells #[.int .i64 hold, .slice al ps.length cl, .slice aw l.length cw] 56)).heap.size := by simp
  replace h := h.below hb1
  replace hm := hm.below hb1
  replace hC := hC.below hb1
  clear hb1; generalize w.alloc (.cells #[.int .i64 hold, .slice al ps.length cl, .slice aw l.length cw] 56) = w3 at p2 z2 hC h hm ⊢
  refine E.val (d := 3) (v := .pointer (some ⟨w3.heap.size, 0, none⟩)) (w' := w3.alloc (.cells #[.slice am m.words.length cm, .int .i64 m.lane, .int .i64 m.stamp, .int .i64 m.late, .int .i64 m.seq] 27)) rfl rfl rfl hF (by have e1 : a.tmps[1]?.getD undef = .agg #[.slice am m.words.length cm, .int .i64 m.lane, .int .i64 m.stamp, .int .i64 m.late, .int .i64 m.seq] := hF.at 1 rfl; simp [go_sem, e1]) ?_
  clear hF a; intro a hF
  have hb4 := (Below.refl w3.heap.size w3).alloc (Nat.le_refl _) (.cells #[.slice am m.words.length cm, .int .i64 m.lane, .int .i64 m.stamp, .int .i64 m.late, .int .i64 m.seq] 27)
  have p3 : pts (w3.alloc (.cells #[.slice am m.words.length cm, .int .i64 m.lane, .int .i64 m.stamp, .int .i64 m.late, .int .i64 m.seq] 27)) (w3.heap.size) [.slice am m.words.length cm, .int .i64 m.lane, .int .i64 m.stamp, .int .i64 m.late, .int .i64 m.seq] 27 := pts.newA w3 #[.slice am m.words.length cm, .int .i64 m.lane, .int .i64 m.stamp, .int .i64 m.late, .int .i64 m.seq] 27
  have z5 : w3.heap.size < (w3.alloc (.cells #[.slice am m.words.length cm, .int .i64 m.lane, .int .i64 m.stamp, .int .i64 m.late, .int .i64 m.seq] 27)).heap.size := by simp
  replace h := h.below hb4
  replace hm := hm.below hb4
  replace p2 := p2.below hb4
  replace hC := hC.below hb4
  clear hb4; generalize w3.alloc (.cells #[.slice am m.words.length cm, .int .i64 m.lane, .int .i64 m.stamp, .int .i64 m.late, .int .i64 m.seq] 27) = w6 at p3 z5 hC h hm p2 ⊢
  refine E.val (d := 4) (v := .pointer (some ⟨w6.heap.size, 0, none⟩)) (w' := w6.alloc (.cells #[.int .i64 0, .slice none 0 0, .slice none 0 0] 56)) rfl rfl rfl hF (by simp [go_sem]) ?_
  clear hF a; intro a hF
  have hb7 := (Below.refl w6.heap.size w6).alloc (Nat.le_refl _) (.cells #[.int .i64 0, .slice none 0 0, .slice none 0 0] 56)
  have p4 : pts (w6.alloc (.cells #[.int .i64 0, .slice none 0 0, .slice none 0 0] 56)) (w6.heap.size) [.int .i64 0, .slice none 0 0, .slice none 0 0] 56 := pts.newA w6 #[.int .i64 0, .slice none 0 0, .slice none 0 0] 56
  have z8 : w6.heap.size < (w6.alloc (.cells #[.int .i64 0, .slice none 0 0, .slice none 0 0] 56)).heap.size := by simp
  replace h := h.below hb7
  replace hm := hm.below hb7
  replace p2 := p2.below hb7
  replace p3 := p3.below hb7
  replace hC := hC.below hb7
  clear hb7; generalize w6.alloc (.cells #[.int .i64 0, .slice none 0 0, .slice none 0 0] 56) = w9 at p4 z8 hC h hm p2 p3 ⊢
  refine E.val (d := 5) (v := .int .i64 0) (w' := w9) rfl rfl rfl hF (by exact E.xAsC rfl) ?_
  clear hF a; intro a hF
  refine E.val (d := 6) (v := .bool false) (w' := w9) rfl rfl rfl hF (by exact E.xAsC rfl) ?_
  clear hF a; intro a hF
  refine E.val (d := 7) (v := .int .i64 0) (w' := w9) rfl rfl rfl hF (by exact E.xAsC rfl) ?_
  clear hF a; intro a hF
  refine wpList_nil ?_
  refine E.then_norm (hK1 _ _ ?_)
  refine wp_seq_k fun K2 hK2 => ?_
  refine wp_seq_k fun K3 hK3 => ?_
  refine wp_region_lit ?_  -- R1
  refine E.val (d := 10) (v := .pointer (some ⟨w.heap.size, 2, none⟩)) (w' := w9) rfl rfl rfl hF (by have e2 : a.tmps[2]?.getD undef = .pointer (some ⟨w.heap.size, 0, none⟩) := hF.at 2 rfl; simp [go_sem, e2]) ?_
  clear hF a; intro a hF
  refine E.val (d := 11) (v := .slice aw l.length cw) (w' := w9) rfl rfl rfl hF (by have c2 : w9.cell? ⟨w.heap.size, 2, none⟩ = some (.slice aw l.length cw) := p2.cell 2; have e10 : a.tmps[10]?.getD undef = .pointer (some ⟨w.heap.size, 2, none⟩) := hF.at 10 rfl; simp [go_sem, e10, c2]) ?_
  clear hF a; intro a hF
  refine E.val (d := 12) (v := .int .i64 (l.length : Int)) (w' := w9) rfl rfl rfl hF (by have e11 : a.tmps[11]?.getD undef = .slice aw l.length cw := hF.at 11 rfl; simp [go_sem, e11]) ?_
  clear hF a; intro a hF
  refine E.val (d := 13) (v := .bool (decide (0 < (l.length : Int)))) (w' := w9) rfl rfl rfl hF (by have e12 : a.tmps[12]?.getD undef = .int .i64 (l.length : Int) := hF.at 12 rfl; simp [go_sem, e12]) ?_
  clear hF a; intro a hF
  refine wpList_nil ?_
  replace hF := hF.sub (m' := [(13, .bool (decide (0 < (l.length : Int)))), (4, .pointer (some ⟨w6.heap.size, 0, none⟩)), (3, .pointer (some ⟨w3.heap.size, 0, none⟩)), (2, .pointer (some ⟨w.heap.size, 0, none⟩))]) ⟨rfl, rfl, rfl, rfl, trivial⟩
  refine E.then_norm (hK3 _ _ ?_)
  rcases E.bsplit (decide (0 < (l.length : Int))) with hc10 | hc10
  ·
    refine E.condT rfl (((hF.at 13 rfl).trans (congrArg Value.bool hc10))) ?_
    refine wp_seq_k fun K4 hK4 => ?_
    refine wp_region_lit ?_  -- R2
    obtain ⟨g, o, ea, -, hg, c0, c1⟩ := QAt.cells h hl
    simp only [Nat.zero_mul, Nat.add_zero] at c0 c1
    refine E.val (d := 14) (v := .pointer (some ⟨w.heap.size, 2, none⟩)) (w' := w9) rfl rfl rfl hF (by have e2 : a.tmps[2]?.getD undef = .pointer (some ⟨w.heap.size, 0, none⟩) := hF.at 2 rfl; simp [go_sem, e2]) ?_
    clear hF a; intro a hF
    refine E.val (d := 15) (v := .slice aw l.length cw) (w' := w9) rfl rfl rfl hF (by have c2 : w9.cell? ⟨w.heap.size, 2, none⟩ = some (.slice aw l.length cw) := p2.cell 2; have e14 : a.tmps[14]?.getD undef = .pointer (some ⟨w.heap.size, 2, none⟩) := hF.at 14 rfl; simp [go_sem, e14, c2]) ?_
    clear hF a; intro a hF
    refine E.val (d := 16) (v := .pointer (some ⟨g, o, none⟩)) (w' := w9) rfl rfl rfl hF (by exact E.xIdx (x := .const (.int .i64 0)) (i := 0) (ofs := o) (k := 2) rfl (by have e := hF.at 15 rfl; rw [ea] at e; exact e) ((by rfl)) Try.underlying54 (by kernel_rfl) (by omega)) ?_
    clear hF a; intro a hF
    refine E.val (d := 17) (v := .pointer (some ⟨g, o, none⟩)) (w' := w9) rfl rfl rfl hF (by have e16 : a.tmps[16]?.getD undef = .pointer (some ⟨g, o, none⟩) := hF.at 16 rfl; simp [go_sem, e16]) ?_
    clear hF a; intro a hF
    refine E.val (d := 18) (v := .int .i64 (l[0].1)) (w' := w9) rfl rfl rfl hF (by have c0 : w9.cell? ⟨g, o, none⟩ = some (.int .i64 (l[0].1)) := (QAt.cellsAt h ea hl).1; have e17 : a.tmps[17]?.getD undef = .pointer (some ⟨g, o, none⟩) := hF.at 17 rfl; simp [go_sem, e17, c0]) ?_
    clear hF a; intro a hF
    refine E.val (d := 8) (v := .int .i64 (l[0].1)) (w' := w9) rfl rfl rfl hF (by exact E.xAs rfl (hF.at 18 rfl)) ?_
    clear hF a; intro a hF
    refine wpList_nil ?_
    replace hF := hF.sub (m' := [(8, .int .i64 (l[0].1)), (4, .pointer (some ⟨w6.heap.size, 0, none⟩)), (2, .pointer (some ⟨w.heap.size, 0, none⟩))]) ⟨rfl, rfl, rfl, trivial⟩
    refine E.then_norm (hK4 _ _ ?_)
    refine wp_seq_k fun K5 hK5 => ?_
    refine wp_region_lit ?_  -- R3
    refine E.val (d := 19) (v := .pointer (some ⟨w.heap.size, 2, none⟩)) (w' := w9) rfl rfl rfl hF (by have e2 : a.tmps[2]?.getD undef = .pointer (some ⟨w.heap.size, 0, none⟩) := hF.at 2 rfl; simp [go_sem, e2]) ?_
    clear hF a; intro a hF
    refine E.val (d := 20) (v := .slice aw l.length cw) (w' := w9) rfl rfl rfl hF (by have c2 : w9.cell? ⟨w.heap.size, 2, none⟩ = some (.slice aw l.length cw) := p2.cell 2; have e19 : a.tmps[19]?.getD undef = .pointer (some ⟨w.heap.size, 2, none⟩) := hF.at 19 rfl; simp [go_sem, e19, c2]) ?_
    clear hF a; intro a hF
    refine E.val (d := 21) (v := .slice (E.sl aw 2 1 cw) ((l.drop 1).length) (cw - 1)) (w' := w9) rfl rfl rfl hF (by exact E.xFrom (x := .const (.int .i64 1)) (l := 1) rfl (hF.at 20 rfl) ((by rfl)) Try.underlying54 (by kernel_rfl) (by omega) (by omega)) ?_
    clear hF a; intro a hF
    have hs11 := E.RowAt.from h (l := 1) (by omega)
    refine E.val (d := 22) (v := .pointer (some ⟨w.heap.size, 2, none⟩)) (w' := w9) rfl rfl rfl hF (by have e2 : a.tmps[2]?.getD undef = .pointer (some ⟨w.heap.size, 0, none⟩) := hF.at 2 rfl; simp [go_sem, e2]) ?_
    clear hF a; intro a hF
    refine E.eff (w' := w9.setCell ⟨w.heap.size, 2, none⟩ (.slice (E.sl aw 2 1 cw) ((l.drop 1).length) (cw - 1))) rfl rfl (by have c := p2.cell 2; have fz := p2.frozen 2; have lt := p2.lt; simp only [List.getElem?_cons_zero, List.getElem?_cons_succ] at c; have e22 : a.tmps[22]?.getD undef = .pointer (some ⟨w.heap.size, 2, none⟩) := hF.at 22 rfl; have e21 : a.tmps[21]?.getD undef = .slice (E.sl aw 2 1 cw) ((l.drop 1).length) (cw - 1) := hF.at 21 rfl; simp [go_sem, e22, e21, c, fz, lt]) ?_
    have hc12 : Chg (fun x => x = w.heap.size) w9 (w9.setCell ⟨w.heap.size, 2, none⟩ (.slice (E.sl aw 2 1 cw) ((l.drop 1).length) (cw - 1))) := E.Chg.set1 _ _ _ _
    have z14 := hc12.size
    replace h := h.kept hc12.size (fun x hx hl => hc12.block x hl (fun hn => by have hn : x = w.heap.size := hn; (try dsimp only at hx); omega))
    replace hm := hm.kept hc12.size (fun x hx hl => hc12.block x hl (fun hn => by have hn : x = w.heap.size := hn; (try dsimp only at hx); omega))
    replace p4 := p4.chg hc12 (fun e => by have e : w6.heap.size = w.heap.size := e; omega)
    replace hs11 := hs11.kept hc12.size (fun x hx hl => hc12.block x hl (fun hn => by have hn : x = w.heap.size := hn; (try dsimp only at hx); omega))
    replace p2 : pts (w9.setCell ⟨w.heap.size, 2, none⟩ (.slice (E.sl aw 2 1 cw) ((l.drop 1).length) (cw - 1))) (w.heap.size) [.int .i64 hold, .slice al ps.length cl, .slice (E.sl aw 2 1 cw) ((l.drop 1).length) (cw - 1)] 56 := E.pts.set1 p2 rfl
    replace hC := hC.trans hc12 (fun x hx => .inr (by omega))
    clear hc12; generalize w9.setCell ⟨w.heap.size, 2, none⟩ (.slice (E.sl aw 2 1 cw) ((l.drop 1).length) (cw - 1)) = w13 at hC z14 h hm p2 p4 hs11 ⊢
    refine wpList_nil ?_
    refine E.then_norm (hK5 _ _ ?_)
    refine wp_seq_k fun K6 hK6 => ?_
    refine wp_region_lit ?_  -- R4
    refine E.val (d := 23) (v := .agg #[.int .i64 hold, .slice al ps.length cl, .slice (E.sl aw 2 1 cw) ((l.drop 1).length) (cw - 1)]) (w' := w13) rfl rfl rfl hF (by exact xLoad rfl (hF.at 2 rfl) p2 Try.underlying56 rfl (by kernel_rfl)) ?_
    clear hF a; intro a hF
    refine E.val (d := 24) (v := .int .i64 (l[0].1)) (w' := w13) rfl rfl rfl hF (by exact E.xMv rfl (hF.at 8 rfl)) ?_
    clear hF a; intro a hF
    refine E.eff (w' := setN w13 (w6.heap.size) 0 [.int .i64 hold, .slice al ps.length cl, .slice (E.sl aw 2 1 cw) ((l.drop 1).length) (cw - 1)]) rfl rfl (by exact xStore rfl (hF.at 4 rfl) (hF.at 23 rfl) p4 rfl (by kernel_rfl) rfl) ?_
    have hc15 : Chg (fun x => x = w6.heap.size) w13 (setN w13 (w6.heap.size) 0 [.int .i64 hold, .slice al ps.length cl, .slice (E.sl aw 2 1 cw) ((l.drop 1).length) (cw - 1)]) := setN_own _ _ _ _
    have z17 := hc15.size
    replace h := h.kept hc15.size (fun x hx hl => hc15.block x hl (fun hn => by have hn : x = w6.heap.size := hn; (try dsimp only at hx); omega))
    replace hm := hm.kept hc15.size (fun x hx hl => hc15.block x hl (fun hn => by have hn : x = w6.heap.size := hn; (try dsimp only at hx); omega))
    replace p2 := p2.chg hc15 (fun e => by have e : w.heap.size = w6.heap.size := e; omega)
    replace hs11 := hs11.kept hc15.size (fun x hx hl => hc15.block x hl (fun hn => by have hn : x = w6.heap.size := hn; (try dsimp only at hx); omega))
    replace p4 : pts (setN w13 (w6.heap.size) 0 [.int .i64 hold, .slice al ps.length cl, .slice (E.sl aw 2 1 cw) ((l.drop 1).length) (cw - 1)]) (w6.heap.size) [.int .i64 hold, .slice al ps.length cl, .slice (E.sl aw 2 1 cw) ((l.drop 1).length) (cw - 1)] 56 := setN_pts0 p4 _ rfl
    replace hC := hC.trans hc15 (fun x hx => .inr (by omega))
    clear hc15; generalize setN w13 (w6.heap.size) 0 [.int .i64 hold, .slice al ps.length cl, .slice (E.sl aw 2 1 cw) ((l.drop 1).length) (cw - 1)] = w16 at hC z17 h hm p2 p4 hs11 ⊢
    refine E.val (d := 5) (v := .int .i64 (l[0].1)) (w' := w16) rfl rfl rfl hF (by exact E.xAs rfl (hF.at 24 rfl)) ?_
    clear hF a; intro a hF
    refine E.val (d := 6) (v := .bool true) (w' := w16) rfl rfl rfl hF (by exact E.xAsC rfl) ?_
    clear hF a; intro a hF
    refine E.val (d := 7) (v := .int .i64 0) (w' := w16) rfl rfl rfl hF (by exact E.xAsC rfl) ?_
    clear hF a; intro a hF
    refine wpList_nil ?_
    replace hF := hF.sub (m' := [(7, .int .i64 0), (6, .bool true), (5, .int .i64 (l[0].1)), (4, .pointer (some ⟨w6.heap.size, 0, none⟩))]) ⟨rfl, rfl, rfl, rfl, trivial⟩
    refine E.then_norm (hK6 _ _ ?_)
    refine wp_ret ?_
    refine E.then_ret ?_
    refine E.ret (v := .tuple #[.agg #[.int .i64 hold, .slice al ps.length cl, .slice (E.sl aw 2 1 cw) ((l.drop 1).length) (cw - 1)], .int .i64 (l[0].1), .bool true, .int .i64 0]) hF (by have e4 : a.tmps[4]?.getD undef = .pointer (some ⟨w6.heap.size, 0, none⟩) := hF.at 4 rfl; have c4_0 : w16.cell? ⟨w6.heap.size, 0, none⟩ = some (.int .i64 hold) := p4.cell 0; have c4_1 : w16.cell? ⟨w6.heap.size, 1, none⟩ = some (.slice al ps.length cl) := p4.cell 1; have c4_2 : w16.cell? ⟨w6.heap.size, 2, none⟩ = some (.slice (E.sl aw 2 1 cw) ((l.drop 1).length) (cw - 1)) := p4.cell 2; have e5 : a.tmps[5]?.getD undef = .int .i64 (l[0].1) := hF.at 5 rfl; have e6 : a.tmps[6]?.getD undef = .bool true := hF.at 6 rfl; have e7 : a.tmps[7]?.getD undef = .int .i64 0 := hF.at 7 rfl; simp [results, Try.results26, go_sem, e4, c4_0, c4_1, c4_2, e5, e6, e7]) ?_
    exact ⟨_, rfl, (E.RowAt.from h0 hl).below (E.below_of hC), E.below_of hC⟩
  ·
    exact absurd (of_decide_eq_false hc10) (by omega)
  -- KLAW
set_option maxRecDepth 100000 in
theorem qput_full (hm : MsgsAt ok okw w (.slice al ps.length cl) ps) (hold : Int) (hf : (ps.length : Int) = hold) (am : Option Addr) (cm : Nat) (m : Msg) : Calls Try.prog 26 #[.agg #[.int .i64 hold, .slice al ps.length cl, .slice aw ([] : List (Int × Int)).length cw], .agg #[.slice am m.words.length cm, .int .i64 m.lane, .int .i64 m.stamp, .int .i64 m.late, .int .i64 m.seq]] w fun e w' => e = .returned (.tuple #[.agg #[.int .i64 hold, .slice al ps.length cl, .slice aw ([] : List (Int × Int)).length cw], .int .i64 0, .bool false, .int .i64 10]) ∧ Below w.heap.size w w' := by
  have h0 := hm
  replace hm := hm.mono (ok' := fun x => x < w.heap.size) (okw' := fun x => x < w.heap.size) (fun _ _ hl => hl) (fun _ _ hl => hl)
  -- WALK ref18 put_full T
  refine E.enter (l := [.agg #[.int .i64 hold, .slice al ps.length cl, .slice aw (([] : List (Int × Int)).length) cw], .agg #[.slice am m.words.length cm, .int .i64 m.lane, .int .i64 m.stamp, .int .i64 m.late, .int .i64 m.seq]]) Try.func26 rfl 42 rfl rfl ?_
  intro a hF
  simp only [E.args] at hF
  have hC := Chg.refl (fun _ => False) w
  refine wp_seq_k fun K1 hK1 => ?_
  refine wp_region_lit ?_  -- R0
  refine E.val (d := 2) (v := .pointer (some ⟨w.heap.size, 0, none⟩)) (w' := w.alloc (.cells #[.int .i64 hold, .slice al ps.length cl, .slice aw (([] : List (Int × Int)).length) cw] 56)) rfl rfl rfl hF (by have e0 : a.tmps[0]?.getD undef = .agg #[.int .i64 hold, .slice al ps.length cl, .slice aw (([] : List (Int × Int)).length) cw] := hF.at 0 rfl; simp [go_sem, e0]) ?_
  clear hF a; intro a hF
  have hb1 := (Below.refl w.heap.size w).alloc (Nat.le_refl _) (.cells #[.int .i64 hold, .slice al ps.length cl, .slice aw (([] : List (Int × Int)).length) cw] 56)
  have p2 : pts (w.alloc (.cells #[.int .i64 hold, .slice al ps.length cl, .slice aw (([] : List (Int × Int)).length) cw] 56)) (w.heap.size) [.int .i64 hold, .slice al ps.length cl, .slice aw (([] : List (Int × Int)).length) cw] 56 := pts.newA w #[.int .i64 hold, .slice al ps.length cl, .slice aw (([] : List (Int × Int)).length) cw] 56
  have z2 : w.heap.size < (w.alloc (.cells #[.int .i64 hold, .slice al ps.length cl, .slice aw (([] : List (Int × Int)).length) cw] 56)).heap.size := by simp
  replace hm := hm.below hb1
  replace hC := hC.below hb1
  clear hb1; generalize w.alloc (.cells #[.int .i64 hold, .slice al ps.length cl, .slice aw (([] : List (Int × Int)).length) cw] 56) = w3 at p2 z2 hC hm ⊢
  refine E.val (d := 3) (v := .pointer (some ⟨w3.heap.size, 0, none⟩)) (w' := w3.alloc (.cells #[.slice am m.words.length cm, .int .i64 m.lane, .int .i64 m.stamp, .int .i64 m.late, .int .i64 m.seq] 27)) rfl rfl rfl hF (by have e1 : a.tmps[1]?.getD undef = .agg #[.slice am m.words.length cm, .int .i64 m.lane, .int .i64 m.stamp, .int .i64 m.late, .int .i64 m.seq] := hF.at 1 rfl; simp [go_sem, e1]) ?_
  clear hF a; intro a hF
  have hb4 := (Below.refl w3.heap.size w3).alloc (Nat.le_refl _) (.cells #[.slice am m.words.length cm, .int .i64 m.lane, .int .i64 m.stamp, .int .i64 m.late, .int .i64 m.seq] 27)
  have p3 : pts (w3.alloc (.cells #[.slice am m.words.length cm, .int .i64 m.lane, .int .i64 m.stamp, .int .i64 m.late, .int .i64 m.seq] 27)) (w3.heap.size) [.slice am m.words.length cm, .int .i64 m.lane, .int .i64 m.stamp, .int .i64 m.late, .int .i64 m.seq] 27 := pts.newA w3 #[.slice am m.words.length cm, .int .i64 m.lane, .int .i64 m.stamp, .int .i64 m.late, .int .i64 m.seq] 27
  have z5 : w3.heap.size < (w3.alloc (.cells #[.slice am m.words.length cm, .int .i64 m.lane, .int .i64 m.stamp, .int .i64 m.late, .int .i64 m.seq] 27)).heap.size := by simp
  replace hm := hm.below hb4
  replace p2 := p2.below hb4
  replace hC := hC.below hb4
  clear hb4; generalize w3.alloc (.cells #[.slice am m.words.length cm, .int .i64 m.lane, .int .i64 m.stamp, .int .i64 m.late, .int .i64 m.seq] 27) = w6 at p3 z5 hC hm p2 ⊢
  refine E.val (d := 4) (v := .pointer (some ⟨w6.heap.size, 0, none⟩)) (w' := w6.alloc (.cells #[.int .i64 0, .slice none 0 0, .slice none 0 0] 56)) rfl rfl rfl hF (by simp [go_sem]) ?_
  clear hF a; intro a hF
  have hb7 := (Below.refl w6.heap.size w6).alloc (Nat.le_refl _) (.cells #[.int .i64 0, .slice none 0 0, .slice none 0 0] 56)
  have p4 : pts (w6.alloc (.cells #[.int .i64 0, .slice none 0 0, .slice none 0 0] 56)) (w6.heap.size) [.int .i64 0, .slice none 0 0, .slice none 0 0] 56 := pts.newA w6 #[.int .i64 0, .slice none 0 0, .slice none 0 0] 56
  have z8 : w6.heap.size < (w6.alloc (.cells #[.int .i64 0, .slice none 0 0, .slice none 0 0] 56)).heap.size := by simp
  replace hm := hm.below hb7
  replace p2 := p2.below hb7
  replace p3 := p3.below hb7
  replace hC := hC.below hb7
  clear hb7; generalize w6.alloc (.cells #[.int .i64 0, .slice none 0 0, .slice none 0 0] 56) = w9 at p4 z8 hC hm p2 p3 ⊢
  refine E.val (d := 5) (v := .int .i64 0) (w' := w9) rfl rfl rfl hF (by exact E.xAsC rfl) ?_
  clear hF a; intro a hF
  refine E.val (d := 6) (v := .bool false) (w' := w9) rfl rfl rfl hF (by exact E.xAsC rfl) ?_
  clear hF a; intro a hF
  refine E.val (d := 7) (v := .int .i64 0) (w' := w9) rfl rfl rfl hF (by exact E.xAsC rfl) ?_
  clear hF a; intro a hF
  refine wpList_nil ?_
  refine E.then_norm (hK1 _ _ ?_)
  refine wp_seq_k fun K2 hK2 => ?_
  refine wp_seq_k fun K3 hK3 => ?_
  refine wp_region_lit ?_  -- R1
  refine E.val (d := 10) (v := .pointer (some ⟨w.heap.size, 2, none⟩)) (w' := w9) rfl rfl rfl hF (by have e2 : a.tmps[2]?.getD undef = .pointer (some ⟨w.heap.size, 0, none⟩) := hF.at 2 rfl; simp [go_sem, e2]) ?_
  clear hF a; intro a hF
  refine E.val (d := 11) (v := .slice aw (([] : List (Int × Int)).length) cw) (w' := w9) rfl rfl rfl hF (by have c2 : w9.cell? ⟨w.heap.size, 2, none⟩ = some (.slice aw (([] : List (Int × Int)).length) cw) := p2.cell 2; have e10 : a.tmps[10]?.getD undef = .pointer (some ⟨w.heap.size, 2, none⟩) := hF.at 10 rfl; simp [go_sem, e10, c2]) ?_
  clear hF a; intro a hF
  refine E.val (d := 12) (v := .int .i64 (([] : List (Int × Int)).length : Int)) (w' := w9) rfl rfl rfl hF (by have e11 : a.tmps[11]?.getD undef = .slice aw (([] : List (Int × Int)).length) cw := hF.at 11 rfl; simp [go_sem, e11]) ?_
  clear hF a; intro a hF
  refine E.val (d := 13) (v := .bool (decide (0 < (([] : List (Int × Int)).length : Int)))) (w' := w9) rfl rfl rfl hF (by have e12 : a.tmps[12]?.getD undef = .int .i64 (([] : List (Int × Int)).length : Int) := hF.at 12 rfl; simp [go_sem, e12]) ?_
  clear hF a; intro a hF
  refine wpList_nil ?_
  replace hF := hF.sub (m' := [(13, .bool (decide (0 < (([] : List (Int × Int)).length : Int)))), (4, .pointer (some ⟨w6.heap.size, 0, none⟩)), (3, .pointer (some ⟨w3.heap.size, 0, none⟩)), (2, .pointer (some ⟨w.heap.size, 0, none⟩))]) ⟨rfl, rfl, rfl, rfl, trivial⟩
  refine E.then_norm (hK3 _ _ ?_)
  rcases E.bsplit (decide (0 < (([] : List (Int × Int)).length : Int))) with hc10 | hc10
  ·
    exact absurd (of_decide_eq_true hc10) (by simp)
  ·
    refine E.condF rfl (((hF.at 13 rfl).trans (congrArg Value.bool hc10))) ?_
    refine wp_skip ?_
    refine E.then_norm (hK2 _ _ ?_)
    refine wp_seq_k fun K4 hK4 => ?_
    refine wp_seq_k fun K5 hK5 => ?_
    refine wp_region_lit ?_  -- R5
    refine E.val (d := 25) (v := .pointer (some ⟨w.heap.size, 1, none⟩)) (w' := w9) rfl rfl rfl hF (by have e2 : a.tmps[2]?.getD undef = .pointer (some ⟨w.heap.size, 0, none⟩) := hF.at 2 rfl; simp [go_sem, e2]) ?_
    clear hF a; intro a hF
    refine E.val (d := 26) (v := .slice al ps.length cl) (w' := w9) rfl rfl rfl hF (by have c1 : w9.cell? ⟨w.heap.size, 1, none⟩ = some (.slice al ps.length cl) := p2.cell 1; have e25 : a.tmps[25]?.getD undef = .pointer (some ⟨w.heap.size, 1, none⟩) := hF.at 25 rfl; simp [go_sem, e25, c1]) ?_
    clear hF a; intro a hF
    refine E.val (d := 27) (v := .int .i64 (ps.length : Int)) (w' := w9) rfl rfl rfl hF (by have e26 : a.tmps[26]?.getD undef = .slice al ps.length cl := hF.at 26 rfl; simp [go_sem, e26]) ?_
    clear hF a; intro a hF
    refine E.val (d := 28) (v := .pointer (some ⟨w.heap.size, 0, none⟩)) (w' := w9) rfl rfl rfl hF (by have e2 : a.tmps[2]?.getD undef = .pointer (some ⟨w.heap.size, 0, none⟩) := hF.at 2 rfl; simp [go_sem, e2]) ?_
    clear hF a; intro a hF
    refine E.val (d := 29) (v := .int .i64 hold) (w' := w9) rfl rfl rfl hF (by have c0 : w9.cell? ⟨w.heap.size, 0, none⟩ = some (.int .i64 hold) := p2.cell 0; have e28 : a.tmps[28]?.getD undef = .pointer (some ⟨w.heap.size, 0, none⟩) := hF.at 28 rfl; simp [go_sem, e28, c0]) ?_
    clear hF a; intro a hF
    refine E.val (d := 30) (v := .bool (decide (hold ≤ (ps.length : Int)))) (w' := w9) rfl rfl rfl hF (by have e27 : a.tmps[27]?.getD undef = .int .i64 (ps.length : Int) := hF.at 27 rfl; have e29 : a.tmps[29]?.getD undef = .int .i64 hold := hF.at 29 rfl; simp [go_sem, e27, e29]) ?_
    clear hF a; intro a hF
    refine wpList_nil ?_
    replace hF := hF.sub (m' := [(30, .bool (decide (hold ≤ (ps.length : Int)))), (4, .pointer (some ⟨w6.heap.size, 0, none⟩)), (3, .pointer (some ⟨w3.heap.size, 0, none⟩)), (2, .pointer (some ⟨w.heap.size, 0, none⟩))]) ⟨rfl, rfl, rfl, rfl, trivial⟩
    refine E.then_norm (hK5 _ _ ?_)
    rcases E.bsplit (decide (hold ≤ (ps.length : Int))) with hc11 | hc11
    ·
      refine E.condT rfl (((hF.at 30 rfl).trans (congrArg Value.bool hc11))) ?_
      refine wp_seq_k fun K6 hK6 => ?_
      refine wp_region_lit ?_  -- R6
      refine E.val (d := 31) (v := .agg #[.int .i64 hold, .slice al ps.length cl, .slice aw (([] : List (Int × Int)).length) cw]) (w' := w9) rfl rfl rfl hF (by exact xLoad rfl (hF.at 2 rfl) p2 Try.underlying56 rfl (by kernel_rfl)) ?_
      clear hF a; intro a hF
      refine E.eff (w' := setN w9 (w6.heap.size) 0 [.int .i64 hold, .slice al ps.length cl, .slice aw (([] : List (Int × Int)).length) cw]) rfl rfl (by exact xStore rfl (hF.at 4 rfl) (hF.at 31 rfl) p4 rfl (by kernel_rfl) rfl) ?_
      have hc12 : Chg (fun x => x = w6.heap.size) w9 (setN w9 (w6.heap.size) 0 [.int .i64 hold, .slice al ps.length cl, .slice aw (([] : List (Int × Int)).length) cw]) := setN_own _ _ _ _
      have z14 := hc12.size
      replace hm := hm.kept hc12.size (fun x hx hl => hc12.block x hl (fun hn => by have hn : x = w6.heap.size := hn; (try dsimp only at hx); omega))
      replace p2 := p2.chg hc12 (fun e => by have e : w.heap.size = w6.heap.size := e; omega)
      replace p3 := p3.chg hc12 (fun e => by have e : w3.heap.size = w6.heap.size := e; omega)
      replace p4 : pts (setN w9 (w6.heap.size) 0 [.int .i64 hold, .slice al ps.length cl, .slice aw (([] : List (Int × Int)).length) cw]) (w6.heap.size) [.int .i64 hold, .slice al ps.length cl, .slice aw (([] : List (Int × Int)).length) cw] 56 := setN_pts0 p4 _ rfl
      replace hC := hC.trans hc12 (fun x hx => .inr (by omega))
      clear hc12; generalize setN w9 (w6.heap.size) 0 [.int .i64 hold, .slice al ps.length cl, .slice aw (([] : List (Int × Int)).length) cw] = w13 at hC z14 hm p2 p3 p4 ⊢
      refine E.val (d := 5) (v := .int .i64 0) (w' := w13) rfl rfl rfl hF (by exact E.xAsC rfl) ?_
      clear hF a; intro a hF
      refine E.val (d := 6) (v := .bool false) (w' := w13) rfl rfl rfl hF (by exact E.xAsC rfl) ?_
      clear hF a; intro a hF
      refine E.val (d := 7) (v := .int .i64 10) (w' := w13) rfl rfl rfl hF (by exact E.xAsC rfl) ?_
      clear hF a; intro a hF
      refine wpList_nil ?_
      refine E.then_norm (hK6 _ _ ?_)
      refine wp_ret ?_
      refine E.then_ret ?_
      refine E.ret (v := .tuple #[.agg #[.int .i64 hold, .slice al ps.length cl, .slice aw (([] : List (Int × Int)).length) cw], .int .i64 0, .bool false, .int .i64 10]) hF (by have e4 : a.tmps[4]?.getD undef = .pointer (some ⟨w6.heap.size, 0, none⟩) := hF.at 4 rfl; have c4_0 : w13.cell? ⟨w6.heap.size, 0, none⟩ = some (.int .i64 hold) := p4.cell 0; have c4_1 : w13.cell? ⟨w6.heap.size, 1, none⟩ = some (.slice al ps.length cl) := p4.cell 1; have c4_2 : w13.cell? ⟨w6.heap.size, 2, none⟩ = some (.slice aw (([] : List (Int × Int)).length) cw) := p4.cell 2; have e5 : a.tmps[5]?.getD undef = .int .i64 0 := hF.at 5 rfl; have e6 : a.tmps[6]?.getD undef = .bool false := hF.at 6 rfl; have e7 : a.tmps[7]?.getD undef = .int .i64 10 := hF.at 7 rfl; simp [results, Try.results26, go_sem, e4, c4_0, c4_1, c4_2, e5, e6, e7]) ?_
      exact ⟨rfl, E.below_of hC⟩
    ·
      exact absurd (by simpa using hc11) (by omega)
  -- KLAW
def PutAdd (w : World) (okw : Nat → Prop) (hold : Int) (wv : Value) (ps : List (Value × Msg)) (e : Ending) (w' : World) : Prop :=
  ∃ lv, e = .returned (.tuple #[.agg #[.int .i64 hold, lv, wv], .int .i64 0, .bool false, .int .i64 0]) ∧ MsgsAt (fun b => w.heap.size ≤ b) okw w' lv ps ∧ Below w.heap.size w w'
set_option maxRecDepth 100000 in
theorem qput_add (hm : MsgsAt ok okw w (.slice al ps.length cl) ps) (hold : Int) (hf : (ps.length : Int) < hold) (hsm : ps.length < 1000) {am : Option Addr} {cm : Nat} {m : Msg} (hm0 : IntsAt okw w (.slice am m.words.length cm) m.words) : Calls Try.prog 26 #[.agg #[.int .i64 hold, .slice al ps.length cl, .slice aw ([] : List (Int × Int)).length cw], .agg #[.slice am m.words.length cm, .int .i64 m.lane, .int .i64 m.stamp, .int .i64 m.late, .int .i64 m.seq]] w (PutAdd w okw hold (.slice aw ([] : List (Int × Int)).length cw) (ps ++ [(.slice am m.words.length cm, m)])) := by
  have h0 := hm
  replace hm := hm.mono (ok' := fun x => x < w.heap.size) (okw' := fun x => x < w.heap.size) (fun _ _ hl => hl) (fun _ _ hl => hl)
  -- WALK ref18 put_full F
  refine E.enter (l := [.agg #[.int .i64 hold, .slice al ps.length cl, .slice aw (([] : List (Int × Int)).length) cw], .agg #[.slice am m.words.length cm, .int .i64 m.lane, .int .i64 m.stamp, .int .i64 m.late, .int .i64 m.seq]]) Try.func26 rfl 42 rfl rfl ?_
  intro a hF
  simp only [E.args] at hF
  have hC := Chg.refl (fun _ => False) w
  refine wp_seq_k fun K1 hK1 => ?_
  refine wp_region_lit ?_  -- R0
  refine E.val (d := 2) (v := .pointer (some ⟨w.heap.size, 0, none⟩)) (w' := w.alloc (.cells #[.int .i64 hold, .slice al ps.length cl, .slice aw (([] : List (Int × Int)).length) cw] 56)) rfl rfl rfl hF (by have e0 : a.tmps[0]?.getD undef = .agg #[.int .i64 hold, .slice al ps.length cl, .slice aw (([] : List (Int × Int)).length) cw] := hF.at 0 rfl; simp [go_sem, e0]) ?_
  clear hF a; intro a hF
  have hb1 := (Below.refl w.heap.size w).alloc (Nat.le_refl _) (.cells #[.int .i64 hold, .slice al ps.length cl, .slice aw (([] : List (Int × Int)).length) cw] 56)
  have p2 : pts (w.alloc (.cells #[.int .i64 hold, .slice al ps.length cl, .slice aw (([] : List (Int × Int)).length) cw] 56)) (w.heap.size) [.int .i64 hold, .slice al ps.length cl, .slice aw (([] : List (Int × Int)).length) cw] 56 := pts.newA w #[.int .i64 hold, .slice al ps.length cl, .slice aw (([] : List (Int × Int)).length) cw] 56
  have z2 : w.heap.size < (w.alloc (.cells #[.int .i64 hold, .slice al ps.length cl, .slice aw (([] : List (Int × Int)).length) cw] 56)).heap.size := by simp
  replace hm := hm.below hb1
  replace hC := hC.below hb1
  clear hb1; generalize w.alloc (.cells #[.int .i64 hold, .slice al ps.length cl, .slice aw (([] : List (Int × Int)).length) cw] 56) = w3 at p2 z2 hC hm ⊢
  refine E.val (d := 3) (v := .pointer (some ⟨w3.heap.size, 0, none⟩)) (w' := w3.alloc (.cells #[.slice am m.words.length cm, .int .i64 m.lane, .int .i64 m.stamp, .int .i64 m.late, .int .i64 m.seq] 27)) rfl rfl rfl hF (by have e1 : a.tmps[1]?.getD undef = .agg #[.slice am m.words.length cm, .int .i64 m.lane, .int .i64 m.stamp, .int .i64 m.late, .int .i64 m.seq] := hF.at 1 rfl; simp [go_sem, e1]) ?_
  clear hF a; intro a hF
  have hb4 := (Below.refl w3.heap.size w3).alloc (Nat.le_refl _) (.cells #[.slice am m.words.length cm, .int .i64 m.lane, .int .i64 m.stamp, .int .i64 m.late, .int .i64 m.seq] 27)
  have p3 : pts (w3.alloc (.cells #[.slice am m.words.length cm, .int .i64 m.lane, .int .i64 m.stamp, .int .i64 m.late, .int .i64 m.seq] 27)) (w3.heap.size) [.slice am m.words.length cm, .int .i64 m.lane, .int .i64 m.stamp, .int .i64 m.late, .int .i64 m.seq] 27 := pts.newA w3 #[.slice am m.words.length cm, .int .i64 m.lane, .int .i64 m.stamp, .int .i64 m.late, .int .i64 m.seq] 27
  have z5 : w3.heap.size < (w3.alloc (.cells #[.slice am m.words.length cm, .int .i64 m.lane, .int .i64 m.stamp, .int .i64 m.late, .int .i64 m.seq] 27)).heap.size := by simp
  replace hm := hm.below hb4
  replace p2 := p2.below hb4
  replace hC := hC.below hb4
  clear hb4; generalize w3.alloc (.cells #[.slice am m.words.length cm, .int .i64 m.lane, .int .i64 m.stamp, .int .i64 m.late, .int .i64 m.seq] 27) = w6 at p3 z5 hC hm p2 ⊢
  refine E.val (d := 4) (v := .pointer (some ⟨w6.heap.size, 0, none⟩)) (w' := w6.alloc (.cells #[.int .i64 0, .slice none 0 0, .slice none 0 0] 56)) rfl rfl rfl hF (by simp [go_sem]) ?_
  clear hF a; intro a hF
  have hb7 := (Below.refl w6.heap.size w6).alloc (Nat.le_refl _) (.cells #[.int .i64 0, .slice none 0 0, .slice none 0 0] 56)
  have p4 : pts (w6.alloc (.cells #[.int .i64 0, .slice none 0 0, .slice none 0 0] 56)) (w6.heap.size) [.int .i64 0, .slice none 0 0, .slice none 0 0] 56 := pts.newA w6 #[.int .i64 0, .slice none 0 0, .slice none 0 0] 56
  have z8 : w6.heap.size < (w6.alloc (.cells #[.int .i64 0, .slice none 0 0, .slice none 0 0] 56)).heap.size := by simp
  replace hm := hm.below hb7
  replace p2 := p2.below hb7
  replace p3 := p3.below hb7
  replace hC := hC.below hb7
  clear hb7; generalize w6.alloc (.cells #[.int .i64 0, .slice none 0 0, .slice none 0 0] 56) = w9 at p4 z8 hC hm p2 p3 ⊢
  refine E.val (d := 5) (v := .int .i64 0) (w' := w9) rfl rfl rfl hF (by exact E.xAsC rfl) ?_
  clear hF a; intro a hF
  refine E.val (d := 6) (v := .bool false) (w' := w9) rfl rfl rfl hF (by exact E.xAsC rfl) ?_
  clear hF a; intro a hF
  refine E.val (d := 7) (v := .int .i64 0) (w' := w9) rfl rfl rfl hF (by exact E.xAsC rfl) ?_
  clear hF a; intro a hF
  refine wpList_nil ?_
  refine E.then_norm (hK1 _ _ ?_)
  refine wp_seq_k fun K2 hK2 => ?_
  refine wp_seq_k fun K3 hK3 => ?_
  refine wp_region_lit ?_  -- R1
  refine E.val (d := 10) (v := .pointer (some ⟨w.heap.size, 2, none⟩)) (w' := w9) rfl rfl rfl hF (by have e2 : a.tmps[2]?.getD undef = .pointer (some ⟨w.heap.size, 0, none⟩) := hF.at 2 rfl; simp [go_sem, e2]) ?_
  clear hF a; intro a hF
  refine E.val (d := 11) (v := .slice aw (([] : List (Int × Int)).length) cw) (w' := w9) rfl rfl rfl hF (by have c2 : w9.cell? ⟨w.heap.size, 2, none⟩ = some (.slice aw (([] : List (Int × Int)).length) cw) := p2.cell 2; have e10 : a.tmps[10]?.getD undef = .pointer (some ⟨w.heap.size, 2, none⟩) := hF.at 10 rfl; simp [go_sem, e10, c2]) ?_
  clear hF a; intro a hF
  refine E.val (d := 12) (v := .int .i64 (([] : List (Int × Int)).length : Int)) (w' := w9) rfl rfl rfl hF (by have e11 : a.tmps[11]?.getD undef = .slice aw (([] : List (Int × Int)).length) cw := hF.at 11 rfl; simp [go_sem, e11]) ?_
  clear hF a; intro a hF
  refine E.val (d := 13) (v := .bool (decide (0 < (([] : List (Int × Int)).length : Int)))) (w' := w9) rfl rfl rfl hF (by have e12 : a.tmps[12]?.getD undef = .int .i64 (([] : List (Int × Int)).length : Int) := hF.at 12 rfl; simp [go_sem, e12]) ?_
  clear hF a; intro a hF
  refine wpList_nil ?_
  replace hF := hF.sub (m' := [(13, .bool (decide (0 < (([] : List (Int × Int)).length : Int)))), (4, .pointer (some ⟨w6.heap.size, 0, none⟩)), (3, .pointer (some ⟨w3.heap.size, 0, none⟩)), (2, .pointer (some ⟨w.heap.size, 0, none⟩))]) ⟨rfl, rfl, rfl, rfl, trivial⟩
  refine E.then_norm (hK3 _ _ ?_)
  rcases E.bsplit (decide (0 < (([] : List (Int × Int)).length : Int))) with hc10 | hc10
  ·
    exact absurd (of_decide_eq_true hc10) (by simp)
  ·
    refine E.condF rfl (((hF.at 13 rfl).trans (congrArg Value.bool hc10))) ?_
    refine wp_skip ?_
    refine E.then_norm (hK2 _ _ ?_)
    refine wp_seq_k fun K4 hK4 => ?_
    refine wp_seq_k fun K5 hK5 => ?_
    refine wp_region_lit ?_  -- R5
    refine E.val (d := 25) (v := .pointer (some ⟨w.heap.size, 1, none⟩)) (w' := w9) rfl rfl rfl hF (by have e2 : a.tmps[2]?.getD undef = .pointer (some ⟨w.heap.size, 0, none⟩) := hF.at 2 rfl; simp [go_sem, e2]) ?_
    clear hF a; intro a hF
    refine E.val (d := 26) (v := .slice al ps.length cl) (w' := w9) rfl rfl rfl hF (by have c1 : w9.cell? ⟨w.heap.size, 1, none⟩ = some (.slice al ps.length cl) := p2.cell 1; have e25 : a.tmps[25]?.getD undef = .pointer (some ⟨w.heap.size, 1, none⟩) := hF.at 25 rfl; simp [go_sem, e25, c1]) ?_
    clear hF a; intro a hF
    refine E.val (d := 27) (v := .int .i64 (ps.length : Int)) (w' := w9) rfl rfl rfl hF (by have e26 : a.tmps[26]?.getD undef = .slice al ps.length cl := hF.at 26 rfl; simp [go_sem, e26]) ?_
    clear hF a; intro a hF
    refine E.val (d := 28) (v := .pointer (some ⟨w.heap.size, 0, none⟩)) (w' := w9) rfl rfl rfl hF (by have e2 : a.tmps[2]?.getD undef = .pointer (some ⟨w.heap.size, 0, none⟩) := hF.at 2 rfl; simp [go_sem, e2]) ?_
    clear hF a; intro a hF
    refine E.val (d := 29) (v := .int .i64 hold) (w' := w9) rfl rfl rfl hF (by have c0 : w9.cell? ⟨w.heap.size, 0, none⟩ = some (.int .i64 hold) := p2.cell 0; have e28 : a.tmps[28]?.getD undef = .pointer (some ⟨w.heap.size, 0, none⟩) := hF.at 28 rfl; simp [go_sem, e28, c0]) ?_
    clear hF a; intro a hF
    refine E.val (d := 30) (v := .bool (decide (hold ≤ (ps.length : Int)))) (w' := w9) rfl rfl rfl hF (by have e27 : a.tmps[27]?.getD undef = .int .i64 (ps.length : Int) := hF.at 27 rfl; have e29 : a.tmps[29]?.getD undef = .int .i64 hold := hF.at 29 rfl; simp [go_sem, e27, e29]) ?_
    clear hF a; intro a hF
    refine wpList_nil ?_
    replace hF := hF.sub (m' := [(30, .bool (decide (hold ≤ (ps.length : Int)))), (4, .pointer (some ⟨w6.heap.size, 0, none⟩)), (3, .pointer (some ⟨w3.heap.size, 0, none⟩)), (2, .pointer (some ⟨w.heap.size, 0, none⟩))]) ⟨rfl, rfl, rfl, rfl, trivial⟩
    refine E.then_norm (hK5 _ _ ?_)
    rcases E.bsplit (decide (hold ≤ (ps.length : Int))) with hc11 | hc11
    ·
      exact absurd (by simpa using hc11) (by omega)
    ·
      refine E.condF rfl (((hF.at 30 rfl).trans (congrArg Value.bool hc11))) ?_
      refine wp_skip ?_
      refine E.then_norm (hK4 _ _ ?_)
      refine wp_seq_k fun K6 hK6 => ?_
      refine wp_region_lit ?_  -- R7
      refine E.val (d := 9) (v := .slice none 0 0) (w' := w9) rfl rfl rfl hF (by exact E.xAsC rfl) ?_
      clear hF a; intro a hF
      refine wpList_nil ?_
      have o9 : w9.ownsRow (w9.heap.size) 27 5 (.slice none 0 0) ([] : List (Value × Msg)).length (flat encM []) := E.own_nil encM _ _ _ _
      refine E.then_norm (hK6 _ _ ?_)
      refine wp_seq_k fun K7 hK7 => ?_
      refine wp_region_lit ?_  -- R8
      refine E.val (d := 32) (v := .slice none 0 0) (w' := w9) rfl rfl rfl hF (by exact E.xMv rfl (hF.at 9 rfl)) ?_
      clear hF a; intro a hF
      refine E.val (d := 33) (v := .pointer (some ⟨w.heap.size, 1, none⟩)) (w' := w9) rfl rfl rfl hF (by have e2 : a.tmps[2]?.getD undef = .pointer (some ⟨w.heap.size, 0, none⟩) := hF.at 2 rfl; simp [go_sem, e2]) ?_
      clear hF a; intro a hF
      refine E.val (d := 34) (v := .slice al ps.length cl) (w' := w9) rfl rfl rfl hF (by have c1 : w9.cell? ⟨w.heap.size, 1, none⟩ = some (.slice al ps.length cl) := p2.cell 1; have e33 : a.tmps[33]?.getD undef = .pointer (some ⟨w.heap.size, 1, none⟩) := hF.at 33 rfl; simp [go_sem, e33, c1]) ?_
      clear hF a; intro a hF
      refine E.pushSl (enc := encM) elM encM_len hF rfl rfl rfl 32 34 rfl (hF.at 32 rfl) o9 (by omega) (hF.at 34 rfl) (E.msgs_row hm) (E.encM_one hm.words) (by first | omega | (simp; omega)) (by omega) ?_
      rintro ra12 rc13 w16 o9' hg14 ho15
      have hc17 := E.chg_grown hg14; have z18 := hc17.size
      clear hF a; intro a hF
      replace hm := hm.kept hc17.size (fun x hx hl => hc17.block x hl (fun hn => by have := own_block_ge o9 x hn; (try dsimp only at hx); omega))
      replace p2 := p2.chg hc17 (fun e => by have := own_block_ge o9 _ e; omega)
      replace p3 := p3.chg hc17 (fun e => by have := own_block_ge o9 _ e; omega)
      replace p4 := p4.chg hc17 (fun e => by have := own_block_ge o9 _ e; omega)
      replace hC := hC.trans hc17 (fun x hx => .inr (by have := own_block_ge o9 x hx; omega))
      replace o9 := o9'; clear hc17 hg14 ho15 
      refine E.val (d := 9) (v := .slice ra12 ((([] : List (Value × Msg)) ++ ps).length) rc13) (w' := w16) rfl rfl rfl hF (by exact E.xAs rfl (hF.at 35 rfl)) ?_
      clear hF a; intro a hF
      refine wpList_nil ?_
      refine E.then_norm (hK7 _ _ ?_)
      refine wp_seq_k fun K8 hK8 => ?_
      refine wp_region_lit ?_  -- R9
      refine E.val (d := 36) (v := .slice ra12 ((([] : List (Value × Msg)) ++ ps).length) rc13) (w' := w16) rfl rfl rfl hF (by exact E.xMv rfl (hF.at 9 rfl)) ?_
      clear hF a; intro a hF
      refine E.val (d := 37) (v := .agg #[.slice am m.words.length cm, .int .i64 m.lane, .int .i64 m.stamp, .int .i64 m.late, .int .i64 m.seq]) (w' := w16) rfl rfl rfl hF (by exact xLoad rfl (hF.at 3 rfl) p3 Try.underlying27 rfl (by kernel_rfl)) ?_
      clear hF a; intro a hF
      refine E.val (d := 38) (v := .slice (some ⟨w16.heap.size, 0, none⟩) 1 1) (w' := w16.alloc (.cells #[.slice am m.words.length cm, .int .i64 m.lane, .int .i64 m.stamp, .int .i64 m.late, .int .i64 m.seq] 27)) rfl rfl rfl hF (by have e37 : a.tmps[37]?.getD undef = .agg #[.slice am m.words.length cm, .int .i64 m.lane, .int .i64 m.stamp, .int .i64 m.late, .int .i64 m.seq] := hF.at 37 rfl; simp [go_sem, e37]) ?_
      clear hF a; intro a hF
      have hb19 := (Below.refl w16.heap.size w16).alloc (Nat.le_refl _) (.cells #[.slice am m.words.length cm, .int .i64 m.lane, .int .i64 m.stamp, .int .i64 m.late, .int .i64 m.seq] 27)
      have p38 : pts (w16.alloc (.cells #[.slice am m.words.length cm, .int .i64 m.lane, .int .i64 m.stamp, .int .i64 m.late, .int .i64 m.seq] 27)) (w16.heap.size) [.slice am m.words.length cm, .int .i64 m.lane, .int .i64 m.stamp, .int .i64 m.late, .int .i64 m.seq] 27 := pts.newA w16 #[.slice am m.words.length cm, .int .i64 m.lane, .int .i64 m.stamp, .int .i64 m.late, .int .i64 m.seq] 27
      have z20 : w16.heap.size < (w16.alloc (.cells #[.slice am m.words.length cm, .int .i64 m.lane, .int .i64 m.stamp, .int .i64 m.late, .int .i64 m.seq] 27)).heap.size := by simp
      have ne22 : ∀ x, (Value.slice ra12 ((([] : List (Value × Msg)) ++ ps).length) rc13).ownBlock = some x → x ≠ w16.heap.size := fun x hx e => by have := K.own_lt o9 hx; omega
      replace hm := hm.below hb19
      replace p2 := p2.below hb19
      replace p3 := p3.below hb19
      replace p4 := p4.below hb19
      replace o9 := K.own_of o9 (fun x hx => hb19.block x (K.own_lt o9 hx))
      replace hC := hC.below hb19
      clear hb19; generalize w16.alloc (.cells #[.slice am m.words.length cm, .int .i64 m.lane, .int .i64 m.stamp, .int .i64 m.late, .int .i64 m.seq] 27) = w21 at p38 z20 hC hm p2 p3 p4 o9 ⊢
      refine E.push (enc := encM) (y := (Value.slice am m.words.length cm, m)) elM hF rfl rfl rfl 36 38 rfl (hF.at 36 rfl) o9 (by omega) (hF.at 38 rfl) p38 rfl (by simp [encM, Value.oneCell']) (by first | omega | (simp; omega)) (by omega) ?_
      rintro ra23 rc24 w27 o9' hg25 ho26
      have hc28 := E.chg_grown hg25; have z29 := hc28.size
      clear hF a; intro a hF
      replace hm := hm.kept hc28.size (fun x hx hl => hc28.block x hl (fun hn => by have := own_block_ge o9 x hn; (try dsimp only at hx); omega))
      replace p2 := p2.chg hc28 (fun e => by have := own_block_ge o9 _ e; omega)
      replace p3 := p3.chg hc28 (fun e => by have := own_block_ge o9 _ e; omega)
      replace p4 := p4.chg hc28 (fun e => by have := own_block_ge o9 _ e; omega)
      replace hC := hC.trans hc28 (fun x hx => .inr (by have := own_block_ge o9 x hx; omega))
      replace o9 := o9'; clear hc28 hg25 ho26 
      refine E.val (d := 40) (v := .pointer (some ⟨w.heap.size, 1, none⟩)) (w' := w27) rfl rfl rfl hF (by have e2 : a.tmps[2]?.getD undef = .pointer (some ⟨w.heap.size, 0, none⟩) := hF.at 2 rfl; simp [go_sem, e2]) ?_
      clear hF a; intro a hF
      refine E.eff (w' := w27.setCell ⟨w.heap.size, 1, none⟩ (.slice ra23 (((([] : List (Value × Msg)) ++ ps) ++ [(Value.slice am m.words.length cm, m)]).length) rc24)) rfl rfl (by have c := p2.cell 1; have fz := p2.frozen 1; have lt := p2.lt; simp only [List.getElem?_cons_zero, List.getElem?_cons_succ] at c; have e40 : a.tmps[40]?.getD undef = .pointer (some ⟨w.heap.size, 1, none⟩) := hF.at 40 rfl; have e39 : a.tmps[39]?.getD undef = .slice ra23 (((([] : List (Value × Msg)) ++ ps) ++ [(Value.slice am m.words.length cm, m)]).length) rc24 := hF.at 39 rfl; simp [go_sem, e40, e39, c, fz, lt]) ?_
      have hc30 : Chg (fun x => x = w.heap.size) w27 (w27.setCell ⟨w.heap.size, 1, none⟩ (.slice ra23 (((([] : List (Value × Msg)) ++ ps) ++ [(Value.slice am m.words.length cm, m)]).length) rc24)) := E.Chg.set1 _ _ _ _
      have z32 := hc30.size
      replace hm := hm.kept hc30.size (fun x hx hl => hc30.block x hl (fun hn => by have hn : x = w.heap.size := hn; (try dsimp only at hx); omega))
      replace p3 := p3.chg hc30 (fun e => by have e : w3.heap.size = w.heap.size := e; omega)
      replace p4 := p4.chg hc30 (fun e => by have e : w6.heap.size = w.heap.size := e; omega)
      replace o9 := K.own_of o9 (fun x hx => hc30.block x (K.own_lt o9 hx) (fun hn => by have hn : x = w.heap.size := hn; have := own_block_ge o9 x hx; omega))
      replace p2 : pts (w27.setCell ⟨w.heap.size, 1, none⟩ (.slice ra23 (((([] : List (Value × Msg)) ++ ps) ++ [(Value.slice am m.words.length cm, m)]).length) rc24)) (w.heap.size) [.int .i64 hold, .slice ra23 (((([] : List (Value × Msg)) ++ ps) ++ [(Value.slice am m.words.length cm, m)]).length) rc24, .slice aw (([] : List (Int × Int)).length) cw] 56 := E.pts.set1 p2 rfl
      replace hC := hC.trans hc30 (fun x hx => .inr (by omega))
      clear hc30; generalize w27.setCell ⟨w.heap.size, 1, none⟩ (.slice ra23 (((([] : List (Value × Msg)) ++ ps) ++ [(Value.slice am m.words.length cm, m)]).length) rc24) = w31 at hC z32 hm p2 p3 p4 o9 ⊢
      refine wpList_nil ?_
      replace hF := hF.sub (m' := [(4, .pointer (some ⟨w6.heap.size, 0, none⟩)), (2, .pointer (some ⟨w.heap.size, 0, none⟩))]) ⟨rfl, rfl, trivial⟩
      refine E.then_norm (hK8 _ _ ?_)
      refine wp_seq_k fun K9 hK9 => ?_
      refine wp_region_lit ?_  -- R10
      refine E.val (d := 41) (v := .agg #[.int .i64 hold, .slice ra23 (((([] : List (Value × Msg)) ++ ps) ++ [(Value.slice am m.words.length cm, m)]).length) rc24, .slice aw (([] : List (Int × Int)).length) cw]) (w' := w31) rfl rfl rfl hF (by exact xLoad rfl (hF.at 2 rfl) p2 Try.underlying56 rfl (by kernel_rfl)) ?_
      clear hF a; intro a hF
      refine E.eff (w' := setN w31 (w6.heap.size) 0 [.int .i64 hold, .slice ra23 (((([] : List (Value × Msg)) ++ ps) ++ [(Value.slice am m.words.length cm, m)]).length) rc24, .slice aw (([] : List (Int × Int)).length) cw]) rfl rfl (by exact xStore rfl (hF.at 4 rfl) (hF.at 41 rfl) p4 rfl (by kernel_rfl) rfl) ?_
      have hc33 : Chg (fun x => x = w6.heap.size) w31 (setN w31 (w6.heap.size) 0 [.int .i64 hold, .slice ra23 (((([] : List (Value × Msg)) ++ ps) ++ [(Value.slice am m.words.length cm, m)]).length) rc24, .slice aw (([] : List (Int × Int)).length) cw]) := setN_own _ _ _ _
      have z35 := hc33.size
      replace hm := hm.kept hc33.size (fun x hx hl => hc33.block x hl (fun hn => by have hn : x = w6.heap.size := hn; (try dsimp only at hx); omega))
      replace p2 := p2.chg hc33 (fun e => by have e : w.heap.size = w6.heap.size := e; omega)
      replace o9 := K.own_of o9 (fun x hx => hc33.block x (K.own_lt o9 hx) (fun hn => by have hn : x = w6.heap.size := hn; have := own_block_ge o9 x hx; omega))
      replace p4 : pts (setN w31 (w6.heap.size) 0 [.int .i64 hold, .slice ra23 (((([] : List (Value × Msg)) ++ ps) ++ [(Value.slice am m.words.length cm, m)]).length) rc24, .slice aw (([] : List (Int × Int)).length) cw]) (w6.heap.size) [.int .i64 hold, .slice ra23 (((([] : List (Value × Msg)) ++ ps) ++ [(Value.slice am m.words.length cm, m)]).length) rc24, .slice aw (([] : List (Int × Int)).length) cw] 56 := setN_pts0 p4 _ rfl
      replace hC := hC.trans hc33 (fun x hx => .inr (by omega))
      clear hc33; generalize setN w31 (w6.heap.size) 0 [.int .i64 hold, .slice ra23 (((([] : List (Value × Msg)) ++ ps) ++ [(Value.slice am m.words.length cm, m)]).length) rc24, .slice aw (([] : List (Int × Int)).length) cw] = w34 at hC z35 hm p2 p4 o9 ⊢
      refine E.val (d := 5) (v := .int .i64 0) (w' := w34) rfl rfl rfl hF (by exact E.xAsC rfl) ?_
      clear hF a; intro a hF
      refine E.val (d := 6) (v := .bool false) (w' := w34) rfl rfl rfl hF (by exact E.xAsC rfl) ?_
      clear hF a; intro a hF
      refine E.val (d := 7) (v := .int .i64 0) (w' := w34) rfl rfl rfl hF (by exact E.xAsC rfl) ?_
      clear hF a; intro a hF
      refine wpList_nil ?_
      refine E.then_norm (hK9 _ _ ?_)
      refine wp_ret ?_
      refine E.ret (v := .tuple #[.agg #[.int .i64 hold, .slice ra23 (((([] : List (Value × Msg)) ++ ps) ++ [(Value.slice am m.words.length cm, m)]).length) rc24, .slice aw (([] : List (Int × Int)).length) cw], .int .i64 0, .bool false, .int .i64 0]) hF (by have e4 : a.tmps[4]?.getD undef = .pointer (some ⟨w6.heap.size, 0, none⟩) := hF.at 4 rfl; have c4_0 : w34.cell? ⟨w6.heap.size, 0, none⟩ = some (.int .i64 hold) := p4.cell 0; have c4_1 : w34.cell? ⟨w6.heap.size, 1, none⟩ = some (.slice ra23 (((([] : List (Value × Msg)) ++ ps) ++ [(Value.slice am m.words.length cm, m)]).length) rc24) := p4.cell 1; have c4_2 : w34.cell? ⟨w6.heap.size, 2, none⟩ = some (.slice aw (([] : List (Int × Int)).length) cw) := p4.cell 2; have e5 : a.tmps[5]?.getD undef = .int .i64 0 := hF.at 5 rfl; have e6 : a.tmps[6]?.getD undef = .bool false := hF.at 6 rfl; have e7 : a.tmps[7]?.getD undef = .int .i64 0 := hF.at 7 rfl; simp [results, Try.results26, go_sem, e4, c4_0, c4_1, c4_2, e5, e6, e7]) ?_
      exact ⟨_, rfl, (MsgsAt.of_own o9 (by rw [List.nil_append]; exact (h0.words.snoc hm0).below (E.below_of hC))).mono (fun x hx _ => by omega) (fun _ h _ => h), E.below_of hC⟩
  -- KLAW
def askQ (ps : List (Value × Msg)) (l : List (Int × Int)) (x u now : Int) : List (Value × Msg) × List (Int × Int) × Msg × Int :=
  if x ∈ l.map Prod.fst then (ps, l, zeroP, 1) else
  match ps with
  | p :: r => (r, l, p.2, 0)
  | [] => if cutT u ≤ cutT now then ([], l, zeroP, 2) else ([], l ++ [(x, cutT u)], zeroP, 6)
theorem askQ_has {x u now : Int} (hw : ¬ x ∈ l.map Prod.fst) (hl : 0 < ps.length) : askQ ps l x u now = (ps.drop 1, l, ps[0].2, 0) := by
  cases ps with
  | nil => simp at hl
  | cons p r => unfold askQ; rw [if_neg hw]; rfl
theorem askQ_late {x u now : Int} (hw : ¬ x ∈ l.map Prod.fst) (hl : ps = []) (hc : cutT u ≤ cutT now) : askQ ps l x u now = ([], l, zeroP, 2) := by
  subst hl; unfold askQ; rw [if_neg hw]; simp only [if_pos hc]
theorem askQ_add {x u now : Int} (hw : ¬ x ∈ l.map Prod.fst) (hl : ps = []) (hc : ¬ cutT u ≤ cutT now) : askQ ps l x u now = ([], l ++ [(x, cutT u)], zeroP, 6) := by
  subst hl; unfold askQ; rw [if_neg hw]; simp only [if_neg hc]
def AskR (w : World) (ok okw : Nat → Prop) (hold : Int) (r : List (Value × Msg) × List (Int × Int) × Msg × Int) (e : Ending) (w' : World) : Prop :=
  ∃ lv wv a c, e = .returned (.tuple #[.agg #[.int .i64 hold, lv, wv], .agg #[.slice a r.2.2.1.words.length c, .int .i64 r.2.2.1.lane, .int .i64 r.2.2.1.stamp, .int .i64 r.2.2.1.late, .int .i64 r.2.2.1.seq], .int .i64 r.2.2.2]) ∧ MsgsAt ok okw w' lv r.1 ∧ QAt (fun b => ok b ∨ w.heap.size ≤ b) w' wv r.2.1 ∧ IntsAt okw w' (.slice a r.2.2.1.words.length c) r.2.2.1.words ∧ Below w.heap.size w w'
set_option maxRecDepth 100000 in
theorem qask_c (h : QAt ok w (.slice aw l.length cw) l) (hm : MsgsAt ok okw w (.slice al ps.length cl) ps) (hsm : l.length < 100000) (hold x u now : Int) : Calls Try.prog 27 #[.agg #[.int .i64 hold, .slice al ps.length cl, .slice aw l.length cw], .int .i64 x, .int .i64 u, .int .i64 now] w (AskR w ok okw hold (askQ ps l x u now)) := by
  have h0 := h
  have h0m := hm
  obtain ⟨-, hlc, hcm, -⟩ := h.get
  obtain ⟨-, hmc, hmm, -⟩ := hm.get
  replace h := h.mono (ok' := fun x => x < w.heap.size) (fun _ _ hl => hl)
  replace hm := hm.mono (ok' := fun x => x < w.heap.size) (okw' := fun x => x < w.heap.size) (fun _ _ hl => hl) (fun _ _ hl => hl)
  -- WALK ref18 ask
  refine E.enter (l := [.agg #[.int .i64 hold, .slice al ps.length cl, .slice aw l.length cw], .int .i64 x, .int .i64 u, .int .i64 now]) Try.func27 rfl 56 rfl rfl ?_
  intro a hF
  simp only [E.args] at hF
  have hC := Chg.refl (fun _ => False) w
  refine wp_seq_k fun K1 hK1 => ?_
  refine wp_region_lit ?_  -- R0
  refine E.val (d := 4) (v := .pointer (some ⟨w.heap.size, 0, none⟩)) (w' := w.alloc (.cells #[.int .i64 hold, .slice al ps.length cl, .slice aw l.length cw] 56)) rfl rfl rfl hF (by have e0 : a.tmps[0]?.getD undef = .agg #[.int .i64 hold, .slice al ps.length cl, .slice aw l.length cw] := hF.at 0 rfl; simp [go_sem, e0]) ?_
  clear hF a; intro a hF
  have hb1 := (Below.refl w.heap.size w).alloc (Nat.le_refl _) (.cells #[.int .i64 hold, .slice al ps.length cl, .slice aw l.length cw] 56)
  have p4 : pts (w.alloc (.cells #[.int .i64 hold, .slice al ps.length cl, .slice aw l.length cw] 56)) (w.heap.size) [.int .i64 hold, .slice al ps.length cl, .slice aw l.length cw] 56 := pts.newA w #[.int .i64 hold, .slice al ps.length cl, .slice aw l.length cw] 56
  have z2 : w.heap.size < (w.alloc (.cells #[.int .i64 hold, .slice al ps.length cl, .slice aw l.length cw] 56)).heap.size := by simp
  replace h := h.below hb1
  replace hm := hm.below hb1
  replace hC := hC.below hb1
  clear hb1; generalize w.alloc (.cells #[.int .i64 hold, .slice al ps.length cl, .slice aw l.length cw] 56) = w3 at p4 z2 hC h hm ⊢
  refine E.val (d := 8) (v := .pointer (some ⟨w3.heap.size, 0, none⟩)) (w' := w3.alloc (.cells #[.int .i64 0, .slice none 0 0, .slice none 0 0] 56)) rfl rfl rfl hF (by simp [go_sem]) ?_
  clear hF a; intro a hF
  have hb4 := (Below.refl w3.heap.size w3).alloc (Nat.le_refl _) (.cells #[.int .i64 0, .slice none 0 0, .slice none 0 0] 56)
  have p8 : pts (w3.alloc (.cells #[.int .i64 0, .slice none 0 0, .slice none 0 0] 56)) (w3.heap.size) [.int .i64 0, .slice none 0 0, .slice none 0 0] 56 := pts.newA w3 #[.int .i64 0, .slice none 0 0, .slice none 0 0] 56
  have z5 : w3.heap.size < (w3.alloc (.cells #[.int .i64 0, .slice none 0 0, .slice none 0 0] 56)).heap.size := by simp
  replace h := h.below hb4
  replace hm := hm.below hb4
  replace p4 := p4.below hb4
  replace hC := hC.below hb4
  clear hb4; generalize w3.alloc (.cells #[.int .i64 0, .slice none 0 0, .slice none 0 0] 56) = w6 at p8 z5 hC h hm p4 ⊢
  refine E.val (d := 9) (v := .pointer (some ⟨w6.heap.size, 0, none⟩)) (w' := w6.alloc (.cells #[.slice none 0 0, .int .i64 0, .int .i64 0, .int .i64 0, .int .i64 0] 27)) rfl rfl rfl hF (by simp [go_sem]) ?_
  clear hF a; intro a hF
  have hb7 := (Below.refl w6.heap.size w6).alloc (Nat.le_refl _) (.cells #[.slice none 0 0, .int .i64 0, .int .i64 0, .int .i64 0, .int .i64 0] 27)
  have p9 : pts (w6.alloc (.cells #[.slice none 0 0, .int .i64 0, .int .i64 0, .int .i64 0, .int .i64 0] 27)) (w6.heap.size) [.slice none 0 0, .int .i64 0, .int .i64 0, .int .i64 0, .int .i64 0] 27 := pts.newA w6 #[.slice none 0 0, .int .i64 0, .int .i64 0, .int .i64 0, .int .i64 0] 27
  have z8 : w6.heap.size < (w6.alloc (.cells #[.slice none 0 0, .int .i64 0, .int .i64 0, .int .i64 0, .int .i64 0] 27)).heap.size := by simp
  replace h := h.below hb7
  replace hm := hm.below hb7
  replace p4 := p4.below hb7
  replace p8 := p8.below hb7
  replace hC := hC.below hb7
  clear hb7; generalize w6.alloc (.cells #[.slice none 0 0, .int .i64 0, .int .i64 0, .int .i64 0, .int .i64 0] 27) = w9 at p9 z8 hC h hm p4 p8 ⊢
  refine E.val (d := 10) (v := .int .i64 0) (w' := w9) rfl rfl rfl hF (by exact E.xAsC rfl) ?_
  clear hF a; intro a hF
  refine wpList_nil ?_
  refine E.then_norm (hK1 _ _ ?_)
  refine wp_seq_k fun K2 hK2 => ?_
  refine wp_region_lit ?_  -- R1
  refine E.val (d := 15) (v := .agg #[.int .i64 hold, .slice al ps.length cl, .slice aw l.length cw]) (w' := w9) rfl rfl rfl hF (by exact xLoad rfl (hF.at 4 rfl) p4 Try.underlying56 rfl (by kernel_rfl)) ?_
  clear hF a; intro a hF
  refine E.val (d := 16) (v := .int .i64 x) (w' := w9) rfl rfl rfl hF (by exact E.xMv rfl (hF.at 1 rfl)) ?_
  clear hF a; intro a hF
  refine E.call (f := 31) (xs := #[.agg #[.int .i64 hold, .slice al ps.length cl, .slice aw l.length cw], .int .i64 x]) rfl rfl rfl hF (by have e15 : a.tmps[15]?.getD undef = .agg #[.int .i64 hold, .slice al ps.length cl, .slice aw l.length cw] := hF.at 15 rfl; have e16 : a.tmps[16]?.getD undef = .int .i64 x := hF.at 16 rfl; simp [go_sem, e15, e16]) (qwaits_c (ps := ps) (al := al) (cl := cl) h hold x) ?_
  rintro e w11 ⟨rfl, hb10⟩
  refine ⟨_, rfl, ?_⟩
  clear hF a; intro a hF
  replace h := h.below hb10
  replace hm := hm.below hb10
  replace p4 := p4.below hb10
  replace p8 := p8.below hb10
  replace p9 := p9.below hb10
  replace hC := hC.below hb10
  have z12 : w9.heap.size ≤ w11.heap.size := hb10.size
  clear hb10
  refine E.val (d := 11) (v := .bool (decide (x ∈ l.map Prod.fst))) (w' := w11) rfl rfl rfl hF (by exact E.xAs rfl (hF.at 17 rfl)) ?_
  clear hF a; intro a hF
  refine wpList_nil ?_
  refine E.then_norm (hK2 _ _ ?_)
  refine wp_seq_k fun K3 hK3 => ?_
  refine wp_seq_k fun K4 hK4 => ?_
  refine wp_region_lit ?_  -- R2
  refine E.val (d := 18) (v := .bool (decide (x ∈ l.map Prod.fst))) (w' := w11) rfl rfl rfl hF (by exact E.xMv rfl (hF.at 11 rfl)) ?_
  clear hF a; intro a hF
  refine wpList_nil ?_
  replace hF := hF.sub (m' := [(18, .bool (decide (x ∈ l.map Prod.fst))), (9, .pointer (some ⟨w6.heap.size, 0, none⟩)), (8, .pointer (some ⟨w3.heap.size, 0, none⟩)), (4, .pointer (some ⟨w.heap.size, 0, none⟩)), (1, .int .i64 x), (2, .int .i64 u), (3, .int .i64 now)]) ⟨rfl, rfl, rfl, rfl, rfl, rfl, rfl, trivial⟩
  refine E.then_norm (hK4 _ _ ?_)
  rcases E.bsplit (decide (x ∈ l.map Prod.fst)) with hc13 | hc13
  ·
    have hw := of_decide_eq_true hc13
    refine E.condT rfl (((hF.at 18 rfl).trans (congrArg Value.bool hc13))) ?_
    refine wp_seq_k fun K5 hK5 => ?_
    refine wp_region_lit ?_  -- R3
    refine E.val (d := 19) (v := .agg #[.int .i64 hold, .slice al ps.length cl, .slice aw l.length cw]) (w' := w11) rfl rfl rfl hF (by exact xLoad rfl (hF.at 4 rfl) p4 Try.underlying56 rfl (by kernel_rfl)) ?_
    clear hF a; intro a hF
    refine E.val (d := 20) (v := .agg #[.slice none 0 0, .int .i64 0, .int .i64 0, .int .i64 0, .int .i64 0]) (w' := w11) rfl rfl rfl hF (by simp [go_sem]) ?_
    clear hF a; intro a hF
    refine E.eff (w' := setN w11 (w3.heap.size) 0 [.int .i64 hold, .slice al ps.length cl, .slice aw l.length cw]) rfl rfl (by exact xStore rfl (hF.at 8 rfl) (hF.at 19 rfl) p8 rfl (by kernel_rfl) rfl) ?_
    have hc14 : Chg (fun x => x = w3.heap.size) w11 (setN w11 (w3.heap.size) 0 [.int .i64 hold, .slice al ps.length cl, .slice aw l.length cw]) := setN_own _ _ _ _
    have z16 := hc14.size
    replace h := h.kept hc14.size (fun x hx hl => hc14.block x hl (fun hn => by have hn : x = w3.heap.size := hn; (try dsimp only at hx); omega))
    replace hm := hm.kept hc14.size (fun x hx hl => hc14.block x hl (fun hn => by have hn : x = w3.heap.size := hn; (try dsimp only at hx); omega))
    replace p4 := p4.chg hc14 (fun e => by have e : w.heap.size = w3.heap.size := e; omega)
    replace p9 := p9.chg hc14 (fun e => by have e : w6.heap.size = w3.heap.size := e; omega)
    replace p8 : pts (setN w11 (w3.heap.size) 0 [.int .i64 hold, .slice al ps.length cl, .slice aw l.length cw]) (w3.heap.size) [.int .i64 hold, .slice al ps.length cl, .slice aw l.length cw] 56 := setN_pts0 p8 _ rfl
    replace hC := hC.trans hc14 (fun x hx => .inr (by omega))
    clear hc14; generalize setN w11 (w3.heap.size) 0 [.int .i64 hold, .slice al ps.length cl, .slice aw l.length cw] = w15 at hC z16 h hm p4 p8 p9 ⊢
    refine E.eff (w' := setN w15 (w6.heap.size) 0 [.slice none 0 0, .int .i64 0, .int .i64 0, .int .i64 0, .int .i64 0]) rfl rfl (by exact xStore rfl (hF.at 9 rfl) (hF.at 20 rfl) p9 rfl (by kernel_rfl) rfl) ?_
    have hc17 : Chg (fun x => x = w6.heap.size) w15 (setN w15 (w6.heap.size) 0 [.slice none 0 0, .int .i64 0, .int .i64 0, .int .i64 0, .int .i64 0]) := setN_own _ _ _ _
    have z19 := hc17.size
    replace h := h.kept hc17.size (fun x hx hl => hc17.block x hl (fun hn => by have hn : x = w6.heap.size := hn; (try dsimp only at hx); omega))
    replace hm := hm.kept hc17.size (fun x hx hl => hc17.block x hl (fun hn => by have hn : x = w6.heap.size := hn; (try dsimp only at hx); omega))
    replace p4 := p4.chg hc17 (fun e => by have e : w.heap.size = w6.heap.size := e; omega)
    replace p8 := p8.chg hc17 (fun e => by have e : w3.heap.size = w6.heap.size := e; omega)
    replace p9 : pts (setN w15 (w6.heap.size) 0 [.slice none 0 0, .int .i64 0, .int .i64 0, .int .i64 0, .int .i64 0]) (w6.heap.size) [.slice none 0 0, .int .i64 0, .int .i64 0, .int .i64 0, .int .i64 0] 27 := setN_pts0 p9 _ rfl
    replace hC := hC.trans hc17 (fun x hx => .inr (by omega))
    clear hc17; generalize setN w15 (w6.heap.size) 0 [.slice none 0 0, .int .i64 0, .int .i64 0, .int .i64 0, .int .i64 0] = w18 at hC z19 h hm p4 p8 p9 ⊢
    refine E.val (d := 10) (v := .int .i64 1) (w' := w18) rfl rfl rfl hF (by exact E.xAsC rfl) ?_
    clear hF a; intro a hF
    refine wpList_nil ?_
    replace hF := hF.sub (m' := [(10, .int .i64 1), (9, .pointer (some ⟨w6.heap.size, 0, none⟩)), (8, .pointer (some ⟨w3.heap.size, 0, none⟩))]) ⟨rfl, rfl, rfl, trivial⟩
    refine E.then_norm (hK5 _ _ ?_)
    refine wp_ret ?_
    refine E.then_ret ?_
    refine E.ret (v := .tuple #[.agg #[.int .i64 hold, .slice al ps.length cl, .slice aw l.length cw], .agg #[.slice none 0 0, .int .i64 0, .int .i64 0, .int .i64 0, .int .i64 0], .int .i64 1]) hF (by have e8 : a.tmps[8]?.getD undef = .pointer (some ⟨w3.heap.size, 0, none⟩) := hF.at 8 rfl; have c8_0 : w18.cell? ⟨w3.heap.size, 0, none⟩ = some (.int .i64 hold) := p8.cell 0; have c8_1 : w18.cell? ⟨w3.heap.size, 1, none⟩ = some (.slice al ps.length cl) := p8.cell 1; have c8_2 : w18.cell? ⟨w3.heap.size, 2, none⟩ = some (.slice aw l.length cw) := p8.cell 2; have e9 : a.tmps[9]?.getD undef = .pointer (some ⟨w6.heap.size, 0, none⟩) := hF.at 9 rfl; have c9_0 : w18.cell? ⟨w6.heap.size, 0, none⟩ = some (.slice none 0 0) := p9.cell 0; have c9_1 : w18.cell? ⟨w6.heap.size, 1, none⟩ = some (.int .i64 0) := p9.cell 1; have c9_2 : w18.cell? ⟨w6.heap.size, 2, none⟩ = some (.int .i64 0) := p9.cell 2; have c9_3 : w18.cell? ⟨w6.heap.size, 3, none⟩ = some (.int .i64 0) := p9.cell 3; have c9_4 : w18.cell? ⟨w6.heap.size, 4, none⟩ = some (.int .i64 0) := p9.cell 4; have e10 : a.tmps[10]?.getD undef = .int .i64 1 := hF.at 10 rfl; simp [results, Try.results27, go_sem, e8, c8_0, c8_1, c8_2, e9, c9_0, c9_1, c9_2, c9_3, c9_4, e10]) ?_
    have hB := E.below_of hC
    rw [show askQ ps l x u now = (ps, l, zeroP, 1) from if_pos hw]
    exact ⟨_, _, none, 0, rfl, (h0m.below hB).mono (fun _ h _ => h) (fun _ h _ => h), (h0.below hB).mono (fun _ h _ => .inl h), IntsAt.nil _ _, hB⟩
  ·
    have hw := of_decide_eq_false hc13
    refine E.condF rfl (((hF.at 18 rfl).trans (congrArg Value.bool hc13))) ?_
    refine wp_skip ?_
    refine E.then_norm (hK3 _ _ ?_)
    refine wp_seq_k fun K6 hK6 => ?_
    refine wp_seq_k fun K7 hK7 => ?_
    refine wp_region_lit ?_  -- R4
    refine E.val (d := 21) (v := .pointer (some ⟨w.heap.size, 1, none⟩)) (w' := w11) rfl rfl rfl hF (by have e4 : a.tmps[4]?.getD undef = .pointer (some ⟨w.heap.size, 0, none⟩) := hF.at 4 rfl; simp [go_sem, e4]) ?_
    clear hF a; intro a hF
    refine E.val (d := 22) (v := .slice al ps.length cl) (w' := w11) rfl rfl rfl hF (by have c1 : w11.cell? ⟨w.heap.size, 1, none⟩ = some (.slice al ps.length cl) := p4.cell 1; have e21 : a.tmps[21]?.getD undef = .pointer (some ⟨w.heap.size, 1, none⟩) := hF.at 21 rfl; simp [go_sem, e21, c1]) ?_
    clear hF a; intro a hF
    refine E.val (d := 23) (v := .int .i64 (ps.length : Int)) (w' := w11) rfl rfl rfl hF (by have e22 : a.tmps[22]?.getD undef = .slice al ps.length cl := hF.at 22 rfl; simp [go_sem, e22]) ?_
    clear hF a; intro a hF
    refine E.val (d := 24) (v := .bool (decide (0 < (ps.length : Int)))) (w' := w11) rfl rfl rfl hF (by have e23 : a.tmps[23]?.getD undef = .int .i64 (ps.length : Int) := hF.at 23 rfl; simp [go_sem, e23]) ?_
    clear hF a; intro a hF
    refine wpList_nil ?_
    refine E.then_norm (hK7 _ _ ?_)
    rcases E.bsplit (decide (0 < (ps.length : Int))) with hc20 | hc20
    ·
      have hl5 : 0 < ps.length := by have := of_decide_eq_true hc20; omega
      refine E.condT rfl (((hF.at 24 rfl).trans (congrArg Value.bool hc20))) ?_
      refine wp_seq_k fun K8 hK8 => ?_
      refine wp_region_lit ?_  -- R5
      obtain ⟨g5, o5, a5, c5, ea5, -, hpe, hat, hiw⟩ := MsgsAt.at5 hm hl5
      simp only [Nat.zero_mul, Nat.add_zero] at hat
      refine E.val (d := 25) (v := .pointer (some ⟨w.heap.size, 1, none⟩)) (w' := w11) rfl rfl rfl hF (by have e4 : a.tmps[4]?.getD undef = .pointer (some ⟨w.heap.size, 0, none⟩) := hF.at 4 rfl; simp [go_sem, e4]) ?_
      clear hF a; intro a hF
      refine E.val (d := 26) (v := .slice al ps.length cl) (w' := w11) rfl rfl rfl hF (by have c1 : w11.cell? ⟨w.heap.size, 1, none⟩ = some (.slice al ps.length cl) := p4.cell 1; have e25 : a.tmps[25]?.getD undef = .pointer (some ⟨w.heap.size, 1, none⟩) := hF.at 25 rfl; simp [go_sem, e25, c1]) ?_
      clear hF a; intro a hF
      refine E.val (d := 27) (v := .pointer (some ⟨g5, o5, none⟩)) (w' := w11) rfl rfl rfl hF (by exact E.xIdx (x := .const (.int .i64 0)) (i := 0) (ofs := o5) (k := 5) rfl (by have e := hF.at 26 rfl; rw [ea5] at e; exact e) ((by rfl)) Try.underlying44 (by kernel_rfl) (by omega)) ?_
      clear hF a; intro a hF
      refine E.val (d := 28) (v := .agg #[.slice a5 (ps[0].2.words.length) c5, .int .i64 (ps[0].2.lane), .int .i64 (ps[0].2.stamp), .int .i64 (ps[0].2.late), .int .i64 (ps[0].2.seq)]) (w' := w11) rfl rfl rfl hF (by have e27 : a.tmps[27]?.getD undef = .pointer (some ⟨g5, o5, none⟩) := hF.at 27 rfl; have c0 : w11.cell? ⟨g5, o5, none⟩ = some (.slice a5 (ps[0].2.words.length) c5) := (msg5 hm ea5 hl5 hpe).c0; have c1 : w11.cell? ⟨g5, o5 + 1, none⟩ = some (.int .i64 (ps[0].2.lane)) := (msg5 hm ea5 hl5 hpe).c1; have c2 : w11.cell? ⟨g5, o5 + 2, none⟩ = some (.int .i64 (ps[0].2.stamp)) := (msg5 hm ea5 hl5 hpe).c2; have c3 : w11.cell? ⟨g5, o5 + 3, none⟩ = some (.int .i64 (ps[0].2.late)) := (msg5 hm ea5 hl5 hpe).c3; have c4 : w11.cell? ⟨g5, o5 + 4, none⟩ = some (.int .i64 (ps[0].2.seq)) := (msg5 hm ea5 hl5 hpe).c4; simp [go_sem, e27, c0, c1, c2, c3, c4]) ?_
      clear hF a; intro a hF
      refine E.val (d := 12) (v := .pointer (some ⟨w11.heap.size, 0, none⟩)) (w' := w11.alloc (.cells #[.slice none 0 0, .int .i64 0, .int .i64 0, .int .i64 0, .int .i64 0] 27)) rfl rfl rfl hF (by simp [go_sem]) ?_
      clear hF a; intro a hF
      have hb21 := (Below.refl w11.heap.size w11).alloc (Nat.le_refl _) (.cells #[.slice none 0 0, .int .i64 0, .int .i64 0, .int .i64 0, .int .i64 0] 27)
      have p12 : pts (w11.alloc (.cells #[.slice none 0 0, .int .i64 0, .int .i64 0, .int .i64 0, .int .i64 0] 27)) (w11.heap.size) [.slice none 0 0, .int .i64 0, .int .i64 0, .int .i64 0, .int .i64 0] 27 := pts.newA w11 #[.slice none 0 0, .int .i64 0, .int .i64 0, .int .i64 0, .int .i64 0] 27
      have z22 : w11.heap.size < (w11.alloc (.cells #[.slice none 0 0, .int .i64 0, .int .i64 0, .int .i64 0, .int .i64 0] 27)).heap.size := by simp
      replace h := h.below hb21
      replace hm := hm.below hb21
      replace p4 := p4.below hb21
      replace p8 := p8.below hb21
      replace p9 := p9.below hb21
      replace hC := hC.below hb21
      clear hb21; generalize w11.alloc (.cells #[.slice none 0 0, .int .i64 0, .int .i64 0, .int .i64 0, .int .i64 0] 27) = w23 at p12 z22 hC h hm p4 p8 p9 ⊢
      refine E.eff (w' := setN w23 (w11.heap.size) 0 [.slice a5 (ps[0].2.words.length) c5, .int .i64 (ps[0].2.lane), .int .i64 (ps[0].2.stamp), .int .i64 (ps[0].2.late), .int .i64 (ps[0].2.seq)]) rfl rfl (by exact xStore rfl (hF.at 12 rfl) (hF.at 28 rfl) p12 rfl (by kernel_rfl) rfl) ?_
      have hc24 : Chg (fun x => x = w11.heap.size) w23 (setN w23 (w11.heap.size) 0 [.slice a5 (ps[0].2.words.length) c5, .int .i64 (ps[0].2.lane), .int .i64 (ps[0].2.stamp), .int .i64 (ps[0].2.late), .int .i64 (ps[0].2.seq)]) := setN_own _ _ _ _
      have z26 := hc24.size
      replace h := h.kept hc24.size (fun x hx hl => hc24.block x hl (fun hn => by have hn : x = w11.heap.size := hn; (try dsimp only at hx); omega))
      replace hm := hm.kept hc24.size (fun x hx hl => hc24.block x hl (fun hn => by have hn : x = w11.heap.size := hn; (try dsimp only at hx); omega))
      replace p4 := p4.chg hc24 (fun e => by have e : w.heap.size = w11.heap.size := e; omega)
      replace p8 := p8.chg hc24 (fun e => by have e : w3.heap.size = w11.heap.size := e; omega)
      replace p9 := p9.chg hc24 (fun e => by have e : w6.heap.size = w11.heap.size := e; omega)
      replace p12 : pts (setN w23 (w11.heap.size) 0 [.slice a5 (ps[0].2.words.length) c5, .int .i64 (ps[0].2.lane), .int .i64 (ps[0].2.stamp), .int .i64 (ps[0].2.late), .int .i64 (ps[0].2.seq)]) (w11.heap.size) [.slice a5 (ps[0].2.words.length) c5, .int .i64 (ps[0].2.lane), .int .i64 (ps[0].2.stamp), .int .i64 (ps[0].2.late), .int .i64 (ps[0].2.seq)] 27 := setN_pts0 p12 _ rfl
      replace hC := hC.trans hc24 (fun x hx => .inr (by omega))
      clear hc24; generalize setN w23 (w11.heap.size) 0 [.slice a5 (ps[0].2.words.length) c5, .int .i64 (ps[0].2.lane), .int .i64 (ps[0].2.stamp), .int .i64 (ps[0].2.late), .int .i64 (ps[0].2.seq)] = w25 at hC z26 h hm p4 p8 p9 p12 ⊢
      refine wpList_nil ?_
      replace hF := hF.sub (m' := [(12, .pointer (some ⟨w11.heap.size, 0, none⟩)), (9, .pointer (some ⟨w6.heap.size, 0, none⟩)), (8, .pointer (some ⟨w3.heap.size, 0, none⟩)), (4, .pointer (some ⟨w.heap.size, 0, none⟩))]) ⟨rfl, rfl, rfl, rfl, trivial⟩
      refine E.then_norm (hK8 _ _ ?_)
      refine wp_seq_k fun K9 hK9 => ?_
      refine wp_region_lit ?_  -- R6
      refine E.val (d := 29) (v := .pointer (some ⟨w.heap.size, 1, none⟩)) (w' := w25) rfl rfl rfl hF (by have e4 : a.tmps[4]?.getD undef = .pointer (some ⟨w.heap.size, 0, none⟩) := hF.at 4 rfl; simp [go_sem, e4]) ?_
      clear hF a; intro a hF
      refine E.val (d := 30) (v := .slice al ps.length cl) (w' := w25) rfl rfl rfl hF (by have c1 : w25.cell? ⟨w.heap.size, 1, none⟩ = some (.slice al ps.length cl) := p4.cell 1; have e29 : a.tmps[29]?.getD undef = .pointer (some ⟨w.heap.size, 1, none⟩) := hF.at 29 rfl; simp [go_sem, e29, c1]) ?_
      clear hF a; intro a hF
      refine E.val (d := 31) (v := .slice (E.sl al 5 1 cl) ((ps.drop 1).length) (cl - 1)) (w' := w25) rfl rfl rfl hF (by exact E.xFrom (x := .const (.int .i64 1)) (l := 1) rfl (hF.at 30 rfl) ((by rfl)) Try.underlying44 (by kernel_rfl) (by omega) (by omega)) ?_
      clear hF a; intro a hF
      have hs27 := E.RowAt.from (E.msgs_row hm) (l := 1) (by omega)
      refine E.val (d := 32) (v := .pointer (some ⟨w.heap.size, 1, none⟩)) (w' := w25) rfl rfl rfl hF (by have e4 : a.tmps[4]?.getD undef = .pointer (some ⟨w.heap.size, 0, none⟩) := hF.at 4 rfl; simp [go_sem, e4]) ?_
      clear hF a; intro a hF
      refine E.eff (w' := w25.setCell ⟨w.heap.size, 1, none⟩ (.slice (E.sl al 5 1 cl) ((ps.drop 1).length) (cl - 1))) rfl rfl (by have c := p4.cell 1; have fz := p4.frozen 1; have lt := p4.lt; simp only [List.getElem?_cons_zero, List.getElem?_cons_succ] at c; have e32 : a.tmps[32]?.getD undef = .pointer (some ⟨w.heap.size, 1, none⟩) := hF.at 32 rfl; have e31 : a.tmps[31]?.getD undef = .slice (E.sl al 5 1 cl) ((ps.drop 1).length) (cl - 1) := hF.at 31 rfl; simp [go_sem, e32, e31, c, fz, lt]) ?_
      have hc28 : Chg (fun x => x = w.heap.size) w25 (w25.setCell ⟨w.heap.size, 1, none⟩ (.slice (E.sl al 5 1 cl) ((ps.drop 1).length) (cl - 1))) := E.Chg.set1 _ _ _ _
      have z30 := hc28.size
      replace h := h.kept hc28.size (fun x hx hl => hc28.block x hl (fun hn => by have hn : x = w.heap.size := hn; (try dsimp only at hx); omega))
      replace hm := hm.kept hc28.size (fun x hx hl => hc28.block x hl (fun hn => by have hn : x = w.heap.size := hn; (try dsimp only at hx); omega))
      replace p8 := p8.chg hc28 (fun e => by have e : w3.heap.size = w.heap.size := e; omega)
      replace p9 := p9.chg hc28 (fun e => by have e : w6.heap.size = w.heap.size := e; omega)
      replace p12 := p12.chg hc28 (fun e => by have e : w11.heap.size = w.heap.size := e; omega)
      replace hs27 := hs27.kept hc28.size (fun x hx hl => hc28.block x hl (fun hn => by have hn : x = w.heap.size := hn; (try dsimp only at hx); omega))
      replace p4 : pts (w25.setCell ⟨w.heap.size, 1, none⟩ (.slice (E.sl al 5 1 cl) ((ps.drop 1).length) (cl - 1))) (w.heap.size) [.int .i64 hold, .slice (E.sl al 5 1 cl) ((ps.drop 1).length) (cl - 1), .slice aw l.length cw] 56 := E.pts.set1 p4 rfl
      replace hC := hC.trans hc28 (fun x hx => .inr (by omega))
      clear hc28; generalize w25.setCell ⟨w.heap.size, 1, none⟩ (.slice (E.sl al 5 1 cl) ((ps.drop 1).length) (cl - 1)) = w29 at hC z30 h hm p4 p8 p9 p12 hs27 ⊢
      refine wpList_nil ?_
      refine E.then_norm (hK9 _ _ ?_)
      refine wp_seq_k fun K10 hK10 => ?_
      refine E.tabP [.v (.agg #[.int .i64 hold, .slice (E.sl al 5 1 cl) ((ps.drop 1).length) (cl - 1), .slice aw l.length cw]), .v (.agg #[.slice a5 (ps[0].2.words.length) c5, .int .i64 (ps[0].2.lane), .int .i64 (ps[0].2.stamp), .int .i64 (ps[0].2.late), .int .i64 (ps[0].2.seq)]), .st (w3.heap.size) [.int .i64 0, .slice none 0 0, .slice none 0 0] [.int .i64 hold, .slice (E.sl al 5 1 cl) ((ps.drop 1).length) (cl - 1), .slice aw l.length cw] 56, .st (w6.heap.size) [.slice none 0 0, .int .i64 0, .int .i64 0, .int .i64 0, .int .i64 0] [.slice a5 (ps[0].2.words.length) c5, .int .i64 (ps[0].2.lane), .int .i64 (ps[0].2.stamp), .int .i64 (ps[0].2.late), .int .i64 (ps[0].2.seq)] 27] [w3.heap.size, w6.heap.size] hF (fun _ _ _ _ _ h => h) (by kernel_rfl) (by kernel_rfl) rfl (by simp only [List.pairwise_cons, List.mem_cons, List.not_mem_nil, or_false, forall_eq, forall_eq_or_imp, false_imp_iff, implies_true, List.Pairwise.nil, and_true, ne_eq] <;> omega) (by simp only [List.mem_cons, List.not_mem_nil, or_false, forall_eq, forall_eq_or_imp]; exact ⟨trivial, trivial, p8, p9⟩) ⟨?_, ?_, ?_, ?_, trivial⟩ ?_  -- R7
      · intro ac gs u hcO hgO hiO hO
        refine opFree rfl ?_
        exact relRun (v := .agg #[.int .i64 hold, .slice (E.sl al 5 1 cl) ((ps.drop 1).length) (cl - 1), .slice aw l.length cw]) (w' := u) (by exact xLoad rfl ((hO.inm 4 rfl (hF.ev 4 _ rfl))) (p4.chg hcO (fun hn => by simp only [List.mem_cons, List.not_mem_nil, or_false] at hn; omega)) Try.underlying56 rfl (by kernel_rfl)) ⟨Chg.refl _ _, rfl⟩
      · intro ac gs u hcO hgO hiO hO
        refine opFree rfl ?_
        exact relRun (v := .agg #[.slice a5 (ps[0].2.words.length) c5, .int .i64 (ps[0].2.lane), .int .i64 (ps[0].2.stamp), .int .i64 (ps[0].2.late), .int .i64 (ps[0].2.seq)]) (w' := u) (by exact xLoad rfl ((hO.inm 12 rfl (hF.ev 12 _ rfl))) (p12.chg hcO (fun hn => by simp only [List.mem_cons, List.not_mem_nil, or_false] at hn; omega)) Try.underlying27 rfl (by kernel_rfl)) ⟨Chg.refl _ _, rfl⟩
      · intro ac gs u hcO hgO hiO hO
        refine opFree rfl ?_
        exact relSkip (xStore rfl ((hO.inm 8 rfl (hF.ev 8 _ rfl))) ((show ac.tmps[33]?.getD undef = .agg #[.int .i64 hold, .slice (E.sl al 5 1 cl) ((ps.drop 1).length) (cl - 1), .slice aw l.length cw] from hO.tm 0 33 rfl rfl)) hiO rfl (by kernel_rfl) rfl) ⟨setN_own _ _ _ _, setN_pts0 hiO _ rfl⟩
      · intro ac gs u hcO hgO hiO hO
        refine opFree rfl ?_
        exact relSkip (xStore rfl ((hO.inm 9 rfl (hF.ev 9 _ rfl))) ((show ac.tmps[34]?.getD undef = .agg #[.slice a5 (ps[0].2.words.length) c5, .int .i64 (ps[0].2.lane), .int .i64 (ps[0].2.stamp), .int .i64 (ps[0].2.late), .int .i64 (ps[0].2.seq)] from hO.tm 1 34 rfl rfl)) hiO rfl (by kernel_rfl) rfl) ⟨setN_own _ _ _ _, setN_pts0 hiO _ rfl⟩
      intro vs gs w31 hc32 hrO
      have r0 : vs 0 = .agg #[.int .i64 hold, .slice (E.sl al 5 1 cl) ((ps.drop 1).length) (cl - 1), .slice aw l.length cw] := hrO 0 (show 0 < 4 by decide)
      have r1 : vs 1 = .agg #[.slice a5 (ps[0].2.words.length) c5, .int .i64 (ps[0].2.lane), .int .i64 (ps[0].2.stamp), .int .i64 (ps[0].2.late), .int .i64 (ps[0].2.seq)] := hrO 1 (show 1 < 4 by decide)
      have z33 : w29.heap.size ≤ w31.heap.size := hc32.size
      replace h := h.kept hc32.size (fun x hx hl => hc32.block x hl (fun hn => by simp only [List.mem_cons, List.not_mem_nil, or_false] at hn; (try dsimp only at hx); omega))
      replace hm := hm.kept hc32.size (fun x hx hl => hc32.block x hl (fun hn => by simp only [List.mem_cons, List.not_mem_nil, or_false] at hn; (try dsimp only at hx); omega))
      replace p4 := p4.chg hc32 (fun hn => by simp only [List.mem_cons, List.not_mem_nil, or_false] at hn; omega)
      replace p8 : pts w31 (w3.heap.size) [.int .i64 hold, .slice (E.sl al 5 1 cl) ((ps.drop 1).length) (cl - 1), .slice aw l.length cw] 56 := hrO 2 (show 2 < 4 by decide)
      replace p9 : pts w31 (w6.heap.size) [.slice a5 (ps[0].2.words.length) c5, .int .i64 (ps[0].2.lane), .int .i64 (ps[0].2.stamp), .int .i64 (ps[0].2.late), .int .i64 (ps[0].2.seq)] 27 := hrO 3 (show 3 < 4 by decide)
      replace p12 := p12.chg hc32 (fun hn => by simp only [List.mem_cons, List.not_mem_nil, or_false] at hn; omega)
      replace hs27 := hs27.kept hc32.size (fun x hx hl => hc32.block x hl (fun hn => by simp only [List.mem_cons, List.not_mem_nil, or_false] at hn; (try dsimp only at hx); omega))
      replace hC := hC.trans hc32 (fun x hx => .inr (by simp only [List.mem_cons, List.not_mem_nil, or_false] at hx; omega))
      intro a hF'; clear hF hrO; have hF := hF'; clear hF'
      simp only [List.length_cons, List.length_nil, Nat.reduceAdd, List.take_succ_cons, List.take_zero, E.putsM, r0, r1] at hF
      clear r0 r1
      simp only [List.length_cons, List.length_nil, Nat.reduceAdd, List.drop_succ_cons, List.drop_zero]
      refine E.val (d := 10) (v := .int .i64 0) (w' := w31) rfl rfl rfl hF (by exact E.xAsC rfl) ?_
      clear hF a; intro a hF
      refine wpList_nil ?_
      replace hF := hF.sub (m' := [(10, .int .i64 0), (9, .pointer (some ⟨w6.heap.size, 0, none⟩)), (8, .pointer (some ⟨w3.heap.size, 0, none⟩))]) ⟨rfl, rfl, rfl, trivial⟩
      refine E.then_norm (hK10 _ _ ?_)
      refine wp_ret ?_
      refine E.then_ret ?_
      refine E.ret (v := .tuple #[.agg #[.int .i64 hold, .slice (E.sl al 5 1 cl) ((ps.drop 1).length) (cl - 1), .slice aw l.length cw], .agg #[.slice a5 (ps[0].2.words.length) c5, .int .i64 (ps[0].2.lane), .int .i64 (ps[0].2.stamp), .int .i64 (ps[0].2.late), .int .i64 (ps[0].2.seq)], .int .i64 0]) hF (by have e8 : a.tmps[8]?.getD undef = .pointer (some ⟨w3.heap.size, 0, none⟩) := hF.at 8 rfl; have c8_0 : w31.cell? ⟨w3.heap.size, 0, none⟩ = some (.int .i64 hold) := p8.cell 0; have c8_1 : w31.cell? ⟨w3.heap.size, 1, none⟩ = some (.slice (E.sl al 5 1 cl) ((ps.drop 1).length) (cl - 1)) := p8.cell 1; have c8_2 : w31.cell? ⟨w3.heap.size, 2, none⟩ = some (.slice aw l.length cw) := p8.cell 2; have e9 : a.tmps[9]?.getD undef = .pointer (some ⟨w6.heap.size, 0, none⟩) := hF.at 9 rfl; have c9_0 : w31.cell? ⟨w6.heap.size, 0, none⟩ = some (.slice a5 (ps[0].2.words.length) c5) := p9.cell 0; have c9_1 : w31.cell? ⟨w6.heap.size, 1, none⟩ = some (.int .i64 (ps[0].2.lane)) := p9.cell 1; have c9_2 : w31.cell? ⟨w6.heap.size, 2, none⟩ = some (.int .i64 (ps[0].2.stamp)) := p9.cell 2; have c9_3 : w31.cell? ⟨w6.heap.size, 3, none⟩ = some (.int .i64 (ps[0].2.late)) := p9.cell 3; have c9_4 : w31.cell? ⟨w6.heap.size, 4, none⟩ = some (.int .i64 (ps[0].2.seq)) := p9.cell 4; have e10 : a.tmps[10]?.getD undef = .int .i64 0 := hF.at 10 rfl; simp [results, Try.results27, go_sem, e8, c8_0, c8_1, c8_2, e9, c9_0, c9_1, c9_2, c9_3, c9_4, e10]) ?_
      have hB := E.below_of hC
      rw [askQ_has hw hl5]
      refine ⟨_, _, a5, c5, rfl, (E.row_msgs (E.RowAt.from (E.msgs_row h0m) (by omega)) (h0m.words.sub (fun p hp => List.mem_of_mem_drop hp))).below hB, (h0.below hB).mono (fun _ h _ => .inl h), ?_, hB⟩
      have := h0m.words ps[0] (List.getElem_mem hl5); rw [hpe] at this; exact this.below hB
    ·
      have hn5 : ps = [] := List.eq_nil_of_length_eq_zero (by have := of_decide_eq_false hc20; omega)
      refine E.condF rfl (((hF.at 24 rfl).trans (congrArg Value.bool hc20))) ?_
      refine wp_skip ?_
      refine E.then_norm (hK6 _ _ ?_)
      refine wp_seq_k fun K11 hK11 => ?_
      refine wp_region_lit ?_  -- R8
      refine E.val (d := 35) (v := .int .i64 u) (w' := w11) rfl rfl rfl hF (by exact E.xMv rfl (hF.at 2 rfl)) ?_
      clear hF a; intro a hF
      refine E.call (f := 41) (xs := #[.int .i64 u]) rfl rfl rfl hF (by have e35 : a.tmps[35]?.getD undef = .int .i64 u := hF.at 35 rfl; simp [go_sem, e35]) (rcut_c _ u) ?_
      rintro e w34 ⟨rfl, rfl⟩
      refine ⟨_, rfl, ?_⟩
      clear hF a; intro a hF
      refine E.val (d := 13) (v := .int .i64 (cutT u)) (w' := w11) rfl rfl rfl hF (by exact E.xAs rfl (hF.at 36 rfl)) ?_
      clear hF a; intro a hF
      refine wpList_nil ?_
      replace hF := hF.sub (m' := [(13, .int .i64 (cutT u)), (9, .pointer (some ⟨w6.heap.size, 0, none⟩)), (8, .pointer (some ⟨w3.heap.size, 0, none⟩)), (4, .pointer (some ⟨w.heap.size, 0, none⟩)), (1, .int .i64 x), (3, .int .i64 now)]) ⟨rfl, rfl, rfl, rfl, rfl, rfl, trivial⟩
      refine E.then_norm (hK11 _ _ ?_)
      refine wp_seq_k fun K12 hK12 => ?_
      refine wp_seq_k fun K13 hK13 => ?_
      refine wp_region_lit ?_  -- R9
      refine E.val (d := 37) (v := .int .i64 (cutT u)) (w' := w11) rfl rfl rfl hF (by exact E.xMv rfl (hF.at 13 rfl)) ?_
      clear hF a; intro a hF
      refine E.val (d := 38) (v := .int .i64 now) (w' := w11) rfl rfl rfl hF (by exact E.xMv rfl (hF.at 3 rfl)) ?_
      clear hF a; intro a hF
      refine E.call (f := 41) (xs := #[.int .i64 now]) rfl rfl rfl hF (by have e38 : a.tmps[38]?.getD undef = .int .i64 now := hF.at 38 rfl; simp [go_sem, e38]) (rcut_c _ now) ?_
      rintro e w35 ⟨rfl, rfl⟩
      refine ⟨_, rfl, ?_⟩
      clear hF a; intro a hF
      refine E.val (d := 40) (v := .bool (decide (cutT u ≤ cutT now))) (w' := w11) rfl rfl rfl hF (by have e37 : a.tmps[37]?.getD undef = .int .i64 (cutT u) := hF.at 37 rfl; have e39 : a.tmps[39]?.getD undef = .int .i64 (cutT now) := hF.at 39 rfl; simp [go_sem, e37, e39]) ?_
      clear hF a; intro a hF
      refine wpList_nil ?_
      refine E.then_norm (hK13 _ _ ?_)
      rcases E.bsplit (decide (cutT u ≤ cutT now)) with hc36 | hc36
      ·
        have hct := of_decide_eq_true hc36
        refine E.condT rfl (((hF.at 40 rfl).trans (congrArg Value.bool hc36))) ?_
        refine wp_seq_k fun K14 hK14 => ?_
        refine wp_region_lit ?_  -- R10
        refine E.val (d := 41) (v := .agg #[.int .i64 hold, .slice al ps.length cl, .slice aw l.length cw]) (w' := w11) rfl rfl rfl hF (by exact xLoad rfl (hF.at 4 rfl) p4 Try.underlying56 rfl (by kernel_rfl)) ?_
        clear hF a; intro a hF
        refine E.val (d := 42) (v := .agg #[.slice none 0 0, .int .i64 0, .int .i64 0, .int .i64 0, .int .i64 0]) (w' := w11) rfl rfl rfl hF (by simp [go_sem]) ?_
        clear hF a; intro a hF
        refine E.eff (w' := setN w11 (w3.heap.size) 0 [.int .i64 hold, .slice al ps.length cl, .slice aw l.length cw]) rfl rfl (by exact xStore rfl (hF.at 8 rfl) (hF.at 41 rfl) p8 rfl (by kernel_rfl) rfl) ?_
        have hc37 : Chg (fun x => x = w3.heap.size) w11 (setN w11 (w3.heap.size) 0 [.int .i64 hold, .slice al ps.length cl, .slice aw l.length cw]) := setN_own _ _ _ _
        have z39 := hc37.size
        replace h := h.kept hc37.size (fun x hx hl => hc37.block x hl (fun hn => by have hn : x = w3.heap.size := hn; (try dsimp only at hx); omega))
        replace hm := hm.kept hc37.size (fun x hx hl => hc37.block x hl (fun hn => by have hn : x = w3.heap.size := hn; (try dsimp only at hx); omega))
        replace p4 := p4.chg hc37 (fun e => by have e : w.heap.size = w3.heap.size := e; omega)
        replace p9 := p9.chg hc37 (fun e => by have e : w6.heap.size = w3.heap.size := e; omega)
        replace p8 : pts (setN w11 (w3.heap.size) 0 [.int .i64 hold, .slice al ps.length cl, .slice aw l.length cw]) (w3.heap.size) [.int .i64 hold, .slice al ps.length cl, .slice aw l.length cw] 56 := setN_pts0 p8 _ rfl
        replace hC := hC.trans hc37 (fun x hx => .inr (by omega))
        clear hc37; generalize setN w11 (w3.heap.size) 0 [.int .i64 hold, .slice al ps.length cl, .slice aw l.length cw] = w38 at hC z39 h hm p4 p8 p9 ⊢
        refine E.eff (w' := setN w38 (w6.heap.size) 0 [.slice none 0 0, .int .i64 0, .int .i64 0, .int .i64 0, .int .i64 0]) rfl rfl (by exact xStore rfl (hF.at 9 rfl) (hF.at 42 rfl) p9 rfl (by kernel_rfl) rfl) ?_
        have hc40 : Chg (fun x => x = w6.heap.size) w38 (setN w38 (w6.heap.size) 0 [.slice none 0 0, .int .i64 0, .int .i64 0, .int .i64 0, .int .i64 0]) := setN_own _ _ _ _
        have z42 := hc40.size
        replace h := h.kept hc40.size (fun x hx hl => hc40.block x hl (fun hn => by have hn : x = w6.heap.size := hn; (try dsimp only at hx); omega))
        replace hm := hm.kept hc40.size (fun x hx hl => hc40.block x hl (fun hn => by have hn : x = w6.heap.size := hn; (try dsimp only at hx); omega))
        replace p4 := p4.chg hc40 (fun e => by have e : w.heap.size = w6.heap.size := e; omega)
        replace p8 := p8.chg hc40 (fun e => by have e : w3.heap.size = w6.heap.size := e; omega)
        replace p9 : pts (setN w38 (w6.heap.size) 0 [.slice none 0 0, .int .i64 0, .int .i64 0, .int .i64 0, .int .i64 0]) (w6.heap.size) [.slice none 0 0, .int .i64 0, .int .i64 0, .int .i64 0, .int .i64 0] 27 := setN_pts0 p9 _ rfl
        replace hC := hC.trans hc40 (fun x hx => .inr (by omega))
        clear hc40; generalize setN w38 (w6.heap.size) 0 [.slice none 0 0, .int .i64 0, .int .i64 0, .int .i64 0, .int .i64 0] = w41 at hC z42 h hm p4 p8 p9 ⊢
        refine E.val (d := 10) (v := .int .i64 2) (w' := w41) rfl rfl rfl hF (by exact E.xAsC rfl) ?_
        clear hF a; intro a hF
        refine wpList_nil ?_
        replace hF := hF.sub (m' := [(10, .int .i64 2), (9, .pointer (some ⟨w6.heap.size, 0, none⟩)), (8, .pointer (some ⟨w3.heap.size, 0, none⟩))]) ⟨rfl, rfl, rfl, trivial⟩
        refine E.then_norm (hK14 _ _ ?_)
        refine wp_ret ?_
        refine E.then_ret ?_
        refine E.ret (v := .tuple #[.agg #[.int .i64 hold, .slice al ps.length cl, .slice aw l.length cw], .agg #[.slice none 0 0, .int .i64 0, .int .i64 0, .int .i64 0, .int .i64 0], .int .i64 2]) hF (by have e8 : a.tmps[8]?.getD undef = .pointer (some ⟨w3.heap.size, 0, none⟩) := hF.at 8 rfl; have c8_0 : w41.cell? ⟨w3.heap.size, 0, none⟩ = some (.int .i64 hold) := p8.cell 0; have c8_1 : w41.cell? ⟨w3.heap.size, 1, none⟩ = some (.slice al ps.length cl) := p8.cell 1; have c8_2 : w41.cell? ⟨w3.heap.size, 2, none⟩ = some (.slice aw l.length cw) := p8.cell 2; have e9 : a.tmps[9]?.getD undef = .pointer (some ⟨w6.heap.size, 0, none⟩) := hF.at 9 rfl; have c9_0 : w41.cell? ⟨w6.heap.size, 0, none⟩ = some (.slice none 0 0) := p9.cell 0; have c9_1 : w41.cell? ⟨w6.heap.size, 1, none⟩ = some (.int .i64 0) := p9.cell 1; have c9_2 : w41.cell? ⟨w6.heap.size, 2, none⟩ = some (.int .i64 0) := p9.cell 2; have c9_3 : w41.cell? ⟨w6.heap.size, 3, none⟩ = some (.int .i64 0) := p9.cell 3; have c9_4 : w41.cell? ⟨w6.heap.size, 4, none⟩ = some (.int .i64 0) := p9.cell 4; have e10 : a.tmps[10]?.getD undef = .int .i64 2 := hF.at 10 rfl; simp [results, Try.results27, go_sem, e8, c8_0, c8_1, c8_2, e9, c9_0, c9_1, c9_2, c9_3, c9_4, e10]) ?_
        have hB := E.below_of hC
        rw [askQ_late hw hn5 hct]
        subst hn5
        exact ⟨_, _, none, 0, rfl, (h0m.below hB).mono (fun _ h _ => h) (fun _ h _ => h), (h0.below hB).mono (fun _ h _ => .inl h), IntsAt.nil _ _, hB⟩
      ·
        have hct := of_decide_eq_false hc36
        refine E.condF rfl (((hF.at 40 rfl).trans (congrArg Value.bool hc36))) ?_
        refine wp_skip ?_
        refine E.then_norm (hK12 _ _ ?_)
        refine wp_seq_k fun K15 hK15 => ?_
        refine wp_region_lit ?_  -- R11
        refine E.val (d := 14) (v := .slice none 0 0) (w' := w11) rfl rfl rfl hF (by exact E.xAsC rfl) ?_
        clear hF a; intro a hF
        refine wpList_nil ?_
        have o14 : w11.ownsRow (w11.heap.size) 80 2 (.slice none 0 0) ([] : List (Int × Int)).length (flat encQ []) := E.own_nil encQ _ _ _ _
        refine E.then_norm (hK15 _ _ ?_)
        refine wp_seq_k fun K16 hK16 => ?_
        refine wp_region_lit ?_  -- R12
        refine E.val (d := 43) (v := .slice none 0 0) (w' := w11) rfl rfl rfl hF (by exact E.xMv rfl (hF.at 14 rfl)) ?_
        clear hF a; intro a hF
        refine E.val (d := 44) (v := .pointer (some ⟨w.heap.size, 2, none⟩)) (w' := w11) rfl rfl rfl hF (by have e4 : a.tmps[4]?.getD undef = .pointer (some ⟨w.heap.size, 0, none⟩) := hF.at 4 rfl; simp [go_sem, e4]) ?_
        clear hF a; intro a hF
        refine E.val (d := 45) (v := .slice aw l.length cw) (w' := w11) rfl rfl rfl hF (by have c2 : w11.cell? ⟨w.heap.size, 2, none⟩ = some (.slice aw l.length cw) := p4.cell 2; have e44 : a.tmps[44]?.getD undef = .pointer (some ⟨w.heap.size, 2, none⟩) := hF.at 44 rfl; simp [go_sem, e44, c2]) ?_
        clear hF a; intro a hF
        refine E.pushSl (enc := encQ) elW encQ_len hF rfl rfl rfl 43 45 rfl (hF.at 43 rfl) o14 (by omega) (hF.at 45 rfl) h (fun y _ => encQ_one y) (by first | omega | (simp; omega)) (by omega) ?_
        rintro ra43 rc44 w47 o14' hg45 ho46
        have hc48 := E.chg_grown hg45; have z49 := hc48.size
        clear hF a; intro a hF
        replace h := h.kept hc48.size (fun x hx hl => hc48.block x hl (fun hn => by have := own_block_ge o14 x hn; (try dsimp only at hx); omega))
        replace hm := hm.kept hc48.size (fun x hx hl => hc48.block x hl (fun hn => by have := own_block_ge o14 x hn; (try dsimp only at hx); omega))
        replace p4 := p4.chg hc48 (fun e => by have := own_block_ge o14 _ e; omega)
        replace p8 := p8.chg hc48 (fun e => by have := own_block_ge o14 _ e; omega)
        replace p9 := p9.chg hc48 (fun e => by have := own_block_ge o14 _ e; omega)
        replace hC := hC.trans hc48 (fun x hx => .inr (by have := own_block_ge o14 x hx; omega))
        replace o14 := o14'; clear hc48 hg45 ho46 
        refine E.val (d := 14) (v := .slice ra43 ((([] : List (Int × Int)) ++ l).length) rc44) (w' := w47) rfl rfl rfl hF (by exact E.xAs rfl (hF.at 46 rfl)) ?_
        clear hF a; intro a hF
        refine wpList_nil ?_
        replace hF := hF.sub (m' := [(14, .slice ra43 ((([] : List (Int × Int)) ++ l).length) rc44), (13, .int .i64 (cutT u)), (9, .pointer (some ⟨w6.heap.size, 0, none⟩)), (8, .pointer (some ⟨w3.heap.size, 0, none⟩)), (4, .pointer (some ⟨w.heap.size, 0, none⟩)), (1, .int .i64 x)]) ⟨rfl, rfl, rfl, rfl, rfl, rfl, trivial⟩
        refine E.then_norm (hK16 _ _ ?_)
        refine wp_seq_k fun K17 hK17 => ?_
        refine wp_region_lit ?_  -- R13
        refine E.val (d := 47) (v := .slice ra43 ((([] : List (Int × Int)) ++ l).length) rc44) (w' := w47) rfl rfl rfl hF (by exact E.xMv rfl (hF.at 14 rfl)) ?_
        clear hF a; intro a hF
        refine E.val (d := 48) (v := .int .i64 x) (w' := w47) rfl rfl rfl hF (by exact E.xMv rfl (hF.at 1 rfl)) ?_
        clear hF a; intro a hF
        refine E.val (d := 49) (v := .int .i64 (cutT u)) (w' := w47) rfl rfl rfl hF (by exact E.xMv rfl (hF.at 13 rfl)) ?_
        clear hF a; intro a hF
        refine E.val (d := 50) (v := .agg #[.int .i64 x, .int .i64 (cutT u)]) (w' := w47) rfl rfl rfl hF (by have e48 : a.tmps[48]?.getD undef = .int .i64 x := hF.at 48 rfl; have e49 : a.tmps[49]?.getD undef = .int .i64 (cutT u) := hF.at 49 rfl; simp [go_sem, e48, e49]) ?_
        clear hF a; intro a hF
        refine E.val (d := 51) (v := .slice (some ⟨w47.heap.size, 0, none⟩) 1 1) (w' := w47.alloc (.cells #[.int .i64 x, .int .i64 (cutT u)] 80)) rfl rfl rfl hF (by have e50 : a.tmps[50]?.getD undef = .agg #[.int .i64 x, .int .i64 (cutT u)] := hF.at 50 rfl; simp [go_sem, e50]) ?_
        clear hF a; intro a hF
        have hb50 := (Below.refl w47.heap.size w47).alloc (Nat.le_refl _) (.cells #[.int .i64 x, .int .i64 (cutT u)] 80)
        have p51 : pts (w47.alloc (.cells #[.int .i64 x, .int .i64 (cutT u)] 80)) (w47.heap.size) [.int .i64 x, .int .i64 (cutT u)] 80 := pts.newA w47 #[.int .i64 x, .int .i64 (cutT u)] 80
        have z51 : w47.heap.size < (w47.alloc (.cells #[.int .i64 x, .int .i64 (cutT u)] 80)).heap.size := by simp
        have ne53 : ∀ x, (Value.slice ra43 ((([] : List (Int × Int)) ++ l).length) rc44).ownBlock = some x → x ≠ w47.heap.size := fun x hx e => by have := K.own_lt o14 hx; omega
        replace h := h.below hb50
        replace hm := hm.below hb50
        replace p4 := p4.below hb50
        replace p8 := p8.below hb50
        replace p9 := p9.below hb50
        replace o14 := K.own_of o14 (fun x hx => hb50.block x (K.own_lt o14 hx))
        replace hC := hC.below hb50
        clear hb50; generalize w47.alloc (.cells #[.int .i64 x, .int .i64 (cutT u)] 80) = w52 at p51 z51 hC h hm p4 p8 p9 o14 ⊢
        refine E.push (enc := encQ) (y := (x, cutT u)) elW hF rfl rfl rfl 47 51 rfl (hF.at 47 rfl) o14 (by omega) (hF.at 51 rfl) p51 rfl (by intro u hu; simp only [encQ, List.mem_cons, List.not_mem_nil, or_false] at hu; rcases hu with rfl | rfl <;> rfl) (by first | omega | (simp; omega)) (by omega) ?_
        rintro ra54 rc55 w58 o14' hg56 ho57
        have hc59 := E.chg_grown hg56; have z60 := hc59.size
        clear hF a; intro a hF
        replace h := h.kept hc59.size (fun x hx hl => hc59.block x hl (fun hn => by have := own_block_ge o14 x hn; (try dsimp only at hx); omega))
        replace hm := hm.kept hc59.size (fun x hx hl => hc59.block x hl (fun hn => by have := own_block_ge o14 x hn; (try dsimp only at hx); omega))
        replace p4 := p4.chg hc59 (fun e => by have := own_block_ge o14 _ e; omega)
        replace p8 := p8.chg hc59 (fun e => by have := own_block_ge o14 _ e; omega)
        replace p9 := p9.chg hc59 (fun e => by have := own_block_ge o14 _ e; omega)
        replace hC := hC.trans hc59 (fun x hx => .inr (by have := own_block_ge o14 x hx; omega))
        replace o14 := o14'; clear hc59 hg56 ho57 
        refine E.val (d := 53) (v := .pointer (some ⟨w.heap.size, 2, none⟩)) (w' := w58) rfl rfl rfl hF (by have e4 : a.tmps[4]?.getD undef = .pointer (some ⟨w.heap.size, 0, none⟩) := hF.at 4 rfl; simp [go_sem, e4]) ?_
        clear hF a; intro a hF
        refine E.eff (w' := w58.setCell ⟨w.heap.size, 2, none⟩ (.slice ra54 (((([] : List (Int × Int)) ++ l) ++ [(x, cutT u)]).length) rc55)) rfl rfl (by have c := p4.cell 2; have fz := p4.frozen 2; have lt := p4.lt; simp only [List.getElem?_cons_zero, List.getElem?_cons_succ] at c; have e53 : a.tmps[53]?.getD undef = .pointer (some ⟨w.heap.size, 2, none⟩) := hF.at 53 rfl; have e52 : a.tmps[52]?.getD undef = .slice ra54 (((([] : List (Int × Int)) ++ l) ++ [(x, cutT u)]).length) rc55 := hF.at 52 rfl; simp [go_sem, e53, e52, c, fz, lt]) ?_
        have hc61 : Chg (fun x => x = w.heap.size) w58 (w58.setCell ⟨w.heap.size, 2, none⟩ (.slice ra54 (((([] : List (Int × Int)) ++ l) ++ [(x, cutT u)]).length) rc55)) := E.Chg.set1 _ _ _ _
        have z63 := hc61.size
        replace h := h.kept hc61.size (fun x hx hl => hc61.block x hl (fun hn => by have hn : x = w.heap.size := hn; (try dsimp only at hx); omega))
        replace hm := hm.kept hc61.size (fun x hx hl => hc61.block x hl (fun hn => by have hn : x = w.heap.size := hn; (try dsimp only at hx); omega))
        replace p8 := p8.chg hc61 (fun e => by have e : w3.heap.size = w.heap.size := e; omega)
        replace p9 := p9.chg hc61 (fun e => by have e : w6.heap.size = w.heap.size := e; omega)
        replace o14 := K.own_of o14 (fun x hx => hc61.block x (K.own_lt o14 hx) (fun hn => by have hn : x = w.heap.size := hn; have := own_block_ge o14 x hx; omega))
        replace p4 : pts (w58.setCell ⟨w.heap.size, 2, none⟩ (.slice ra54 (((([] : List (Int × Int)) ++ l) ++ [(x, cutT u)]).length) rc55)) (w.heap.size) [.int .i64 hold, .slice al ps.length cl, .slice ra54 (((([] : List (Int × Int)) ++ l) ++ [(x, cutT u)]).length) rc55] 56 := E.pts.set1 p4 rfl
        replace hC := hC.trans hc61 (fun x hx => .inr (by omega))
        clear hc61; generalize w58.setCell ⟨w.heap.size, 2, none⟩ (.slice ra54 (((([] : List (Int × Int)) ++ l) ++ [(x, cutT u)]).length) rc55) = w62 at hC z63 h hm p4 p8 p9 o14 ⊢
        refine wpList_nil ?_
        replace hF := hF.sub (m' := [(9, .pointer (some ⟨w6.heap.size, 0, none⟩)), (8, .pointer (some ⟨w3.heap.size, 0, none⟩)), (4, .pointer (some ⟨w.heap.size, 0, none⟩))]) ⟨rfl, rfl, rfl, trivial⟩
        refine E.then_norm (hK17 _ _ ?_)
        refine wp_seq_k fun K18 hK18 => ?_
        refine wp_region_lit ?_  -- R14
        refine E.val (d := 54) (v := .agg #[.int .i64 hold, .slice al ps.length cl, .slice ra54 (((([] : List (Int × Int)) ++ l) ++ [(x, cutT u)]).length) rc55]) (w' := w62) rfl rfl rfl hF (by exact xLoad rfl (hF.at 4 rfl) p4 Try.underlying56 rfl (by kernel_rfl)) ?_
        clear hF a; intro a hF
        refine E.val (d := 55) (v := .agg #[.slice none 0 0, .int .i64 0, .int .i64 0, .int .i64 0, .int .i64 0]) (w' := w62) rfl rfl rfl hF (by simp [go_sem]) ?_
        clear hF a; intro a hF
        refine E.eff (w' := setN w62 (w3.heap.size) 0 [.int .i64 hold, .slice al ps.length cl, .slice ra54 (((([] : List (Int × Int)) ++ l) ++ [(x, cutT u)]).length) rc55]) rfl rfl (by exact xStore rfl (hF.at 8 rfl) (hF.at 54 rfl) p8 rfl (by kernel_rfl) rfl) ?_
        have hc64 : Chg (fun x => x = w3.heap.size) w62 (setN w62 (w3.heap.size) 0 [.int .i64 hold, .slice al ps.length cl, .slice ra54 (((([] : List (Int × Int)) ++ l) ++ [(x, cutT u)]).length) rc55]) := setN_own _ _ _ _
        have z66 := hc64.size
        replace h := h.kept hc64.size (fun x hx hl => hc64.block x hl (fun hn => by have hn : x = w3.heap.size := hn; (try dsimp only at hx); omega))
        replace hm := hm.kept hc64.size (fun x hx hl => hc64.block x hl (fun hn => by have hn : x = w3.heap.size := hn; (try dsimp only at hx); omega))
        replace p4 := p4.chg hc64 (fun e => by have e : w.heap.size = w3.heap.size := e; omega)
        replace p9 := p9.chg hc64 (fun e => by have e : w6.heap.size = w3.heap.size := e; omega)
        replace o14 := K.own_of o14 (fun x hx => hc64.block x (K.own_lt o14 hx) (fun hn => by have hn : x = w3.heap.size := hn; have := own_block_ge o14 x hx; omega))
        replace p8 : pts (setN w62 (w3.heap.size) 0 [.int .i64 hold, .slice al ps.length cl, .slice ra54 (((([] : List (Int × Int)) ++ l) ++ [(x, cutT u)]).length) rc55]) (w3.heap.size) [.int .i64 hold, .slice al ps.length cl, .slice ra54 (((([] : List (Int × Int)) ++ l) ++ [(x, cutT u)]).length) rc55] 56 := setN_pts0 p8 _ rfl
        replace hC := hC.trans hc64 (fun x hx => .inr (by omega))
        clear hc64; generalize setN w62 (w3.heap.size) 0 [.int .i64 hold, .slice al ps.length cl, .slice ra54 (((([] : List (Int × Int)) ++ l) ++ [(x, cutT u)]).length) rc55] = w65 at hC z66 h hm p4 p8 p9 o14 ⊢
        refine E.eff (w' := setN w65 (w6.heap.size) 0 [.slice none 0 0, .int .i64 0, .int .i64 0, .int .i64 0, .int .i64 0]) rfl rfl (by exact xStore rfl (hF.at 9 rfl) (hF.at 55 rfl) p9 rfl (by kernel_rfl) rfl) ?_
        have hc67 : Chg (fun x => x = w6.heap.size) w65 (setN w65 (w6.heap.size) 0 [.slice none 0 0, .int .i64 0, .int .i64 0, .int .i64 0, .int .i64 0]) := setN_own _ _ _ _
        have z69 := hc67.size
        replace h := h.kept hc67.size (fun x hx hl => hc67.block x hl (fun hn => by have hn : x = w6.heap.size := hn; (try dsimp only at hx); omega))
        replace hm := hm.kept hc67.size (fun x hx hl => hc67.block x hl (fun hn => by have hn : x = w6.heap.size := hn; (try dsimp only at hx); omega))
        replace p4 := p4.chg hc67 (fun e => by have e : w.heap.size = w6.heap.size := e; omega)
        replace p8 := p8.chg hc67 (fun e => by have e : w3.heap.size = w6.heap.size := e; omega)
        replace o14 := K.own_of o14 (fun x hx => hc67.block x (K.own_lt o14 hx) (fun hn => by have hn : x = w6.heap.size := hn; have := own_block_ge o14 x hx; omega))
        replace p9 : pts (setN w65 (w6.heap.size) 0 [.slice none 0 0, .int .i64 0, .int .i64 0, .int .i64 0, .int .i64 0]) (w6.heap.size) [.slice none 0 0, .int .i64 0, .int .i64 0, .int .i64 0, .int .i64 0] 27 := setN_pts0 p9 _ rfl
        replace hC := hC.trans hc67 (fun x hx => .inr (by omega))
        clear hc67; generalize setN w65 (w6.heap.size) 0 [.slice none 0 0, .int .i64 0, .int .i64 0, .int .i64 0, .int .i64 0] = w68 at hC z69 h hm p4 p8 p9 o14 ⊢
        refine E.val (d := 10) (v := .int .i64 6) (w' := w68) rfl rfl rfl hF (by exact E.xAsC rfl) ?_
        clear hF a; intro a hF
        refine wpList_nil ?_
        refine E.then_norm (hK18 _ _ ?_)
        refine wp_ret ?_
        refine E.ret (v := .tuple #[.agg #[.int .i64 hold, .slice al ps.length cl, .slice ra54 (((([] : List (Int × Int)) ++ l) ++ [(x, cutT u)]).length) rc55], .agg #[.slice none 0 0, .int .i64 0, .int .i64 0, .int .i64 0, .int .i64 0], .int .i64 6]) hF (by have e8 : a.tmps[8]?.getD undef = .pointer (some ⟨w3.heap.size, 0, none⟩) := hF.at 8 rfl; have c8_0 : w68.cell? ⟨w3.heap.size, 0, none⟩ = some (.int .i64 hold) := p8.cell 0; have c8_1 : w68.cell? ⟨w3.heap.size, 1, none⟩ = some (.slice al ps.length cl) := p8.cell 1; have c8_2 : w68.cell? ⟨w3.heap.size, 2, none⟩ = some (.slice ra54 (((([] : List (Int × Int)) ++ l) ++ [(x, cutT u)]).length) rc55) := p8.cell 2; have e9 : a.tmps[9]?.getD undef = .pointer (some ⟨w6.heap.size, 0, none⟩) := hF.at 9 rfl; have c9_0 : w68.cell? ⟨w6.heap.size, 0, none⟩ = some (.slice none 0 0) := p9.cell 0; have c9_1 : w68.cell? ⟨w6.heap.size, 1, none⟩ = some (.int .i64 0) := p9.cell 1; have c9_2 : w68.cell? ⟨w6.heap.size, 2, none⟩ = some (.int .i64 0) := p9.cell 2; have c9_3 : w68.cell? ⟨w6.heap.size, 3, none⟩ = some (.int .i64 0) := p9.cell 3; have c9_4 : w68.cell? ⟨w6.heap.size, 4, none⟩ = some (.int .i64 0) := p9.cell 4; have e10 : a.tmps[10]?.getD undef = .int .i64 6 := hF.at 10 rfl; simp [results, Try.results27, go_sem, e8, c8_0, c8_1, c8_2, e9, c9_0, c9_1, c9_2, c9_3, c9_4, e10]) ?_
        have hB := E.below_of hC
        rw [askQ_add hw hn5 hct]
        subst hn5
        exact ⟨_, _, none, 0, rfl, (h0m.below hB).mono (fun _ h _ => h) (fun _ h _ => h), (RowAt.of_own encQ_len o14 rfl).mono (fun x hx _ => .inr (by omega)), IntsAt.nil _ _, hB⟩
  -- KLAW
def lateV (now : Int) (p : Value × Msg) : Bool := lateT now p.2.late
def SweepR (w : World) (okw : Nat → Prop) (hold now : Int) (wv : Value) (ps : List (Value × Msg)) (e : Ending) (w' : World) : Prop :=
  ∃ v1 v2, e = .returned (.tuple #[.agg #[.int .i64 hold, v1, wv], v2]) ∧ MsgsAt (fun b => w.heap.size ≤ b) okw w' v1 (ps.filter (fun p => !lateV now p)) ∧ MsgsAt (fun b => w.heap.size ≤ b) okw w' v2 (ps.filter (lateV now)) ∧ Below w.heap.size w w'
set_option maxRecDepth 100000 in
theorem qsweep_c (hm : MsgsAt ok okw w (.slice al ps.length cl) ps) (hsm : ps.length < 1000) (hold now : Int) (nw : Nat) : Calls Try.prog 29 #[.agg #[.int .i64 hold, .slice al ps.length cl, .slice aw nw cw], .int .i64 now] w (SweepR w okw hold now (.slice aw nw cw) ps) := by
  have h0m := hm
  obtain ⟨-, hmc, hmm, -⟩ := hm.get
  replace hm := hm.mono (ok' := fun x => x < w.heap.size) (okw' := fun x => x < w.heap.size) (fun _ _ hl => hl) (fun _ _ hl => hl)
  -- WALK ref18 sweep
  refine E.enter (l := [.agg #[.int .i64 hold, .slice al ps.length cl, .slice aw nw cw], .int .i64 now]) Try.func29 rfl 45 rfl rfl ?_
  intro a hF
  simp only [E.args] at hF
  have hC := Chg.refl (fun _ => False) w
  refine wp_seq_k fun K1 hK1 => ?_
  refine wp_region_lit ?_  -- R0
  refine E.val (d := 2) (v := .pointer (some ⟨w.heap.size, 0, none⟩)) (w' := w.alloc (.cells #[.int .i64 hold, .slice al ps.length cl, .slice aw nw cw] 56)) rfl rfl rfl hF (by have e0 : a.tmps[0]?.getD undef = .agg #[.int .i64 hold, .slice al ps.length cl, .slice aw nw cw] := hF.at 0 rfl; simp [go_sem, e0]) ?_
  clear hF a; intro a hF
  have hb1 := (Below.refl w.heap.size w).alloc (Nat.le_refl _) (.cells #[.int .i64 hold, .slice al ps.length cl, .slice aw nw cw] 56)
  have p2 : pts (w.alloc (.cells #[.int .i64 hold, .slice al ps.length cl, .slice aw nw cw] 56)) (w.heap.size) [.int .i64 hold, .slice al ps.length cl, .slice aw nw cw] 56 := pts.newA w #[.int .i64 hold, .slice al ps.length cl, .slice aw nw cw] 56
  have z2 : w.heap.size < (w.alloc (.cells #[.int .i64 hold, .slice al ps.length cl, .slice aw nw cw] 56)).heap.size := by simp
  replace hm := hm.below hb1
  replace hC := hC.below hb1
  clear hb1; generalize w.alloc (.cells #[.int .i64 hold, .slice al ps.length cl, .slice aw nw cw] 56) = w3 at p2 z2 hC hm ⊢
  refine E.val (d := 4) (v := .pointer (some ⟨w3.heap.size, 0, none⟩)) (w' := w3.alloc (.cells #[.int .i64 0, .slice none 0 0, .slice none 0 0] 56)) rfl rfl rfl hF (by simp [go_sem]) ?_
  clear hF a; intro a hF
  have hb4 := (Below.refl w3.heap.size w3).alloc (Nat.le_refl _) (.cells #[.int .i64 0, .slice none 0 0, .slice none 0 0] 56)
  have p4 : pts (w3.alloc (.cells #[.int .i64 0, .slice none 0 0, .slice none 0 0] 56)) (w3.heap.size) [.int .i64 0, .slice none 0 0, .slice none 0 0] 56 := pts.newA w3 #[.int .i64 0, .slice none 0 0, .slice none 0 0] 56
  have z5 : w3.heap.size < (w3.alloc (.cells #[.int .i64 0, .slice none 0 0, .slice none 0 0] 56)).heap.size := by simp
  replace hm := hm.below hb4
  replace p2 := p2.below hb4
  replace hC := hC.below hb4
  clear hb4; generalize w3.alloc (.cells #[.int .i64 0, .slice none 0 0, .slice none 0 0] 56) = w6 at p4 z5 hC hm p2 ⊢
  refine E.val (d := 5) (v := .slice none 0 0) (w' := w6) rfl rfl rfl hF (by exact E.xAsC rfl) ?_
  clear hF a; intro a hF
  refine wpList_nil ?_
  refine E.then_norm (hK1 _ _ ?_)
  refine wp_seq_k fun K2 hK2 => ?_
  refine wp_region_lit ?_  -- R1
  refine E.val (d := 6) (v := .slice none 0 0) (w' := w6) rfl rfl rfl hF (by exact E.xAsC rfl) ?_
  clear hF a; intro a hF
  refine E.val (d := 7) (v := .slice none 0 0) (w' := w6) rfl rfl rfl hF (by exact E.xAsC rfl) ?_
  clear hF a; intro a hF
  refine wpList_nil ?_
  have o6 : w6.ownsRow (w6.heap.size) 27 5 (.slice none 0 0) ([] : List (Value × Msg)).length (flat encM []) := E.own_nil encM _ _ _ _
  have o7 : w6.ownsRow (w6.heap.size) 27 5 (.slice none 0 0) ([] : List (Value × Msg)).length (flat encM []) := E.own_nil encM _ _ _ _
  have nr7 : ∀ x, (Value.slice none 0 0).ownBlock = some x → (Value.slice none 0 0).ownBlock ≠ some x := fun x h => E.nil_block h
  refine E.then_norm (hK2 _ _ ?_)
  refine wp_seq_k fun K3 hK3 => ?_
  refine wp_seq_k fun K4 hK4 => ?_
  refine wp_region_lit ?_  -- R2
  refine E.val (d := 8) (v := .int .i64 0) (w' := w6) rfl rfl rfl hF (by exact E.xAsC rfl) ?_
  clear hF a; intro a hF
  refine wpList_nil ?_
  refine E.then_norm (hK4 _ _ ?_)
  refine wp_block ?_
  refine wp_loop_ghost (fun g a wr => ∃ (j : Nat) (ra_o6 : Option Addr) (rc_o6 : Nat) (ra_o7 : Option Addr) (rc_o7 : Nat), (g = ps.length - j) ∧ (E.Fr 45 [(8, .int .i64 (j : Int)), (7, .slice ra_o7 (((ps.take j).filter (lateV now)).length) rc_o7), (6, .slice ra_o6 (((ps.take j).filter (fun p => !lateV now p)).length) rc_o6), (4, .pointer (some ⟨w3.heap.size, 0, none⟩)), (2, .pointer (some ⟨w.heap.size, 0, none⟩)), (1, .int .i64 now)] a) ∧ (Chg (fun _ => False) w wr) ∧ (w6.heap.size ≤ wr.heap.size) ∧ (MsgsAt (fun x => x < w.heap.size) (fun x => x < w.heap.size) wr (.slice al ps.length cl) ps) ∧ (pts wr (w.heap.size) [.int .i64 hold, .slice al ps.length cl, .slice aw nw cw] 56) ∧ (pts wr (w3.heap.size) [.int .i64 0, .slice none 0 0, .slice none 0 0] 56) ∧ (wr.ownsRow (w6.heap.size) 27 5 (.slice ra_o6 (((ps.take j).filter (fun p => !lateV now p)).length) rc_o6) ((ps.take j).filter (fun p => !lateV now p)).length (flat encM ((ps.take j).filter (fun p => !lateV now p)))) ∧ (wr.ownsRow (w6.heap.size) 27 5 (.slice ra_o7 (((ps.take j).filter (lateV now)).length) rc_o7) ((ps.take j).filter (lateV now)).length (flat encM ((ps.take j).filter (lateV now)))) ∧ (j ≤ ps.length) ∧ (∀ x, (Value.slice ra_o7 (((ps.take j).filter (lateV now)).length) rc_o7).ownBlock = some x → (Value.slice ra_o6 (((ps.take j).filter (fun p => !lateV now p)).length) rc_o6).ownBlock ≠ some x)) _ ⟨0, none, 0, none, 0, rfl, hF.sub (by exact ⟨rfl, rfl, rfl, rfl, rfl, rfl, trivial⟩), hC, Nat.le_refl _, hm, p2, p4, o6, o7, Nat.zero_le _, nr7⟩ ?_
  clear hF a hC hm p2 p4 o6 o7
  rintro g a wr ⟨j, ra_o6, rc_o6, ra_o7, rc_o7, rfl, hF, hC, z8, hm, p2, p4, o6, o7, hj, nr7⟩
  refine wp_seq_k fun K5 hK5 => ?_
  refine wp_seq_k fun K6 hK6 => ?_
  refine wp_region_lit ?_  -- R3
  refine E.val (d := 10) (v := .int .i64 (j : Int)) (w' := wr) rfl rfl rfl hF (by exact E.xMv rfl (hF.at 8 rfl)) ?_
  clear hF a; intro a hF
  refine E.val (d := 11) (v := .pointer (some ⟨w.heap.size, 1, none⟩)) (w' := wr) rfl rfl rfl hF (by have e2 : a.tmps[2]?.getD undef = .pointer (some ⟨w.heap.size, 0, none⟩) := hF.at 2 rfl; simp [go_sem, e2]) ?_
  clear hF a; intro a hF
  refine E.val (d := 12) (v := .slice al ps.length cl) (w' := wr) rfl rfl rfl hF (by have c1 : wr.cell? ⟨w.heap.size, 1, none⟩ = some (.slice al ps.length cl) := p2.cell 1; have e11 : a.tmps[11]?.getD undef = .pointer (some ⟨w.heap.size, 1, none⟩) := hF.at 11 rfl; simp [go_sem, e11, c1]) ?_
  clear hF a; intro a hF
  refine E.val (d := 13) (v := .int .i64 (ps.length : Int)) (w' := wr) rfl rfl rfl hF (by have e12 : a.tmps[12]?.getD undef = .slice al ps.length cl := hF.at 12 rfl; simp [go_sem, e12]) ?_
  clear hF a; intro a hF
  refine E.val (d := 14) (v := .bool (decide ((j : Int) < (ps.length : Int)))) (w' := wr) rfl rfl rfl hF (by have e10 : a.tmps[10]?.getD undef = .int .i64 (j : Int) := hF.at 10 rfl; have e13 : a.tmps[13]?.getD undef = .int .i64 (ps.length : Int) := hF.at 13 rfl; simp [go_sem, e10, e13]) ?_
  clear hF a; intro a hF
  refine wpList_nil ?_
  refine E.then_norm (hK6 _ _ ?_)
  rcases E.bsplit (decide ((j : Int) < (ps.length : Int))) with hc9 | hc9
  ·
    have hlt : j < ps.length := by have := of_decide_eq_true hc9; omega
    obtain ⟨g5, o5, a5, c5, ea5, -, hpe, hat, hiw⟩ := MsgsAt.at5 hm hlt
    refine E.condT rfl (((hF.at 14 rfl).trans (congrArg Value.bool hc9))) ?_
    refine wp_skip ?_
    refine E.then_norm (hK5 _ _ ?_)
    refine wp_seq_k fun K7 hK7 => ?_
    refine wp_block ?_
    refine wp_seq_k fun K8 hK8 => ?_
    refine wp_region_lit ?_  -- R5
    refine E.val (d := 17) (v := .pointer (some ⟨w.heap.size, 1, none⟩)) (w' := wr) rfl rfl rfl hF (by have e2 : a.tmps[2]?.getD undef = .pointer (some ⟨w.heap.size, 0, none⟩) := hF.at 2 rfl; simp [go_sem, e2]) ?_
    clear hF a; intro a hF
    refine E.val (d := 18) (v := .slice al ps.length cl) (w' := wr) rfl rfl rfl hF (by have c1 : wr.cell? ⟨w.heap.size, 1, none⟩ = some (.slice al ps.length cl) := p2.cell 1; have e17 : a.tmps[17]?.getD undef = .pointer (some ⟨w.heap.size, 1, none⟩) := hF.at 17 rfl; simp [go_sem, e17, c1]) ?_
    clear hF a; intro a hF
    refine E.val (d := 19) (v := .int .i64 (j : Int)) (w' := wr) rfl rfl rfl hF (by exact E.xMv rfl (hF.at 8 rfl)) ?_
    clear hF a; intro a hF
    refine E.val (d := 20) (v := .pointer (some ⟨g5, o5 + j * 5, none⟩)) (w' := wr) rfl rfl rfl hF (by exact E.xIdx (x := .tmp 19) (i := j) (ofs := o5) (k := 5) rfl (by have e := hF.at 18 rfl; rw [ea5] at e; exact e) ((E.ev_of (hF.at 19 rfl))) Try.underlying44 (by kernel_rfl) (by omega)) ?_
    clear hF a; intro a hF
    refine E.val (d := 21) (v := .agg #[.slice a5 (ps[j].2.words.length) c5, .int .i64 (ps[j].2.lane), .int .i64 (ps[j].2.stamp), .int .i64 (ps[j].2.late), .int .i64 (ps[j].2.seq)]) (w' := wr) rfl rfl rfl hF (by have e20 : a.tmps[20]?.getD undef = .pointer (some ⟨g5, o5 + j * 5, none⟩) := hF.at 20 rfl; have c0 : wr.cell? ⟨g5, o5 + j * 5, none⟩ = some (.slice a5 (ps[j].2.words.length) c5) := (msg5 hm ea5 hlt hpe).c0; have c1 : wr.cell? ⟨g5, o5 + j * 5 + 1, none⟩ = some (.int .i64 (ps[j].2.lane)) := (msg5 hm ea5 hlt hpe).c1; have c2 : wr.cell? ⟨g5, o5 + j * 5 + 2, none⟩ = some (.int .i64 (ps[j].2.stamp)) := (msg5 hm ea5 hlt hpe).c2; have c3 : wr.cell? ⟨g5, o5 + j * 5 + 3, none⟩ = some (.int .i64 (ps[j].2.late)) := (msg5 hm ea5 hlt hpe).c3; have c4 : wr.cell? ⟨g5, o5 + j * 5 + 4, none⟩ = some (.int .i64 (ps[j].2.seq)) := (msg5 hm ea5 hlt hpe).c4; simp [go_sem, e20, c0, c1, c2, c3, c4]) ?_
    clear hF a; intro a hF
    refine E.val (d := 22) (v := .int .i64 now) (w' := wr) rfl rfl rfl hF (by exact E.xMv rfl (hF.at 1 rfl)) ?_
    clear hF a; intro a hF
    refine E.call (f := 42) (xs := #[.agg #[.slice a5 (ps[j].2.words.length) c5, .int .i64 (ps[j].2.lane), .int .i64 (ps[j].2.stamp), .int .i64 (ps[j].2.late), .int .i64 (ps[j].2.seq)], .int .i64 now]) rfl rfl rfl hF (by have e21 : a.tmps[21]?.getD undef = .agg #[.slice a5 (ps[j].2.words.length) c5, .int .i64 (ps[j].2.lane), .int .i64 (ps[j].2.stamp), .int .i64 (ps[j].2.late), .int .i64 (ps[j].2.seq)] := hF.at 21 rfl; have e22 : a.tmps[22]?.getD undef = .int .i64 now := hF.at 22 rfl; simp [go_sem, e21, e22]) (R2.late_c _ a5 _ c5 ps[j].2 now) ?_
    rintro e w11 ⟨rfl, hb10⟩
    refine ⟨_, rfl, ?_⟩
    clear hF a; intro a hF
    replace hm := hm.below hb10
    replace p2 := p2.below hb10
    replace p4 := p4.below hb10
    replace o6 := K.own_of o6 (fun x hx => hb10.block x (K.own_lt o6 hx))
    replace o7 := K.own_of o7 (fun x hx => hb10.block x (K.own_lt o7 hx))
    replace hC := hC.below hb10
    have z12 : wr.heap.size ≤ w11.heap.size := hb10.size
    clear hb10
    refine E.val (d := 9) (v := .bool (lateT now ps[j].2.late)) (w' := w11) rfl rfl rfl hF (by exact E.xAs rfl (hF.at 23 rfl)) ?_
    clear hF a; intro a hF
    refine wpList_nil ?_
    replace hF := hF.sub (m' := [(9, .bool (lateT now ps[j].2.late)), (8, .int .i64 (j : Int)), (7, .slice ra_o7 (((ps.take j).filter (lateV now)).length) rc_o7), (6, .slice ra_o6 (((ps.take j).filter (fun p => !lateV now p)).length) rc_o6), (4, .pointer (some ⟨w3.heap.size, 0, none⟩)), (2, .pointer (some ⟨w.heap.size, 0, none⟩)), (1, .int .i64 now)]) ⟨rfl, rfl, rfl, rfl, rfl, rfl, rfl, trivial⟩
    refine E.then_norm (hK8 _ _ ?_)
    refine wp_seq_k fun K9 hK9 => ?_
    refine wp_region_lit ?_  -- R6
    refine E.val (d := 24) (v := .bool (lateT now ps[j].2.late)) (w' := w11) rfl rfl rfl hF (by exact E.xMv rfl (hF.at 9 rfl)) ?_
    clear hF a; intro a hF
    refine wpList_nil ?_
    refine E.then_norm (hK9 _ _ ?_)
    rcases E.bsplit (lateT now ps[j].2.late) with hc13 | hc13
    ·
      refine E.condT rfl (((hF.at 24 rfl).trans (congrArg Value.bool hc13))) ?_
      have hle := K.filter_take_le ps j (lateV now)
      refine wp_region_lit ?_  -- R7
      refine E.val (d := 25) (v := .slice ra_o7 (((ps.take j).filter (lateV now)).length) rc_o7) (w' := w11) rfl rfl rfl hF (by exact E.xMv rfl (hF.at 7 rfl)) ?_
      clear hF a; intro a hF
      refine E.val (d := 26) (v := .pointer (some ⟨w.heap.size, 1, none⟩)) (w' := w11) rfl rfl rfl hF (by have e2 : a.tmps[2]?.getD undef = .pointer (some ⟨w.heap.size, 0, none⟩) := hF.at 2 rfl; simp [go_sem, e2]) ?_
      clear hF a; intro a hF
      refine E.val (d := 27) (v := .slice al ps.length cl) (w' := w11) rfl rfl rfl hF (by have c1 : w11.cell? ⟨w.heap.size, 1, none⟩ = some (.slice al ps.length cl) := p2.cell 1; have e26 : a.tmps[26]?.getD undef = .pointer (some ⟨w.heap.size, 1, none⟩) := hF.at 26 rfl; simp [go_sem, e26, c1]) ?_
      clear hF a; intro a hF
      refine E.val (d := 28) (v := .int .i64 (j : Int)) (w' := w11) rfl rfl rfl hF (by exact E.xMv rfl (hF.at 8 rfl)) ?_
      clear hF a; intro a hF
      refine E.val (d := 29) (v := .pointer (some ⟨g5, o5 + j * 5, none⟩)) (w' := w11) rfl rfl rfl hF (by exact E.xIdx (x := .tmp 28) (i := j) (ofs := o5) (k := 5) rfl (by have e := hF.at 27 rfl; rw [ea5] at e; exact e) ((E.ev_of (hF.at 28 rfl))) Try.underlying44 (by kernel_rfl) (by omega)) ?_
      clear hF a; intro a hF
      refine E.val (d := 30) (v := .agg #[.slice a5 (ps[j].2.words.length) c5, .int .i64 (ps[j].2.lane), .int .i64 (ps[j].2.stamp), .int .i64 (ps[j].2.late), .int .i64 (ps[j].2.seq)]) (w' := w11) rfl rfl rfl hF (by have e29 : a.tmps[29]?.getD undef = .pointer (some ⟨g5, o5 + j * 5, none⟩) := hF.at 29 rfl; have c0 : w11.cell? ⟨g5, o5 + j * 5, none⟩ = some (.slice a5 (ps[j].2.words.length) c5) := (msg5 hm ea5 hlt hpe).c0; have c1 : w11.cell? ⟨g5, o5 + j * 5 + 1, none⟩ = some (.int .i64 (ps[j].2.lane)) := (msg5 hm ea5 hlt hpe).c1; have c2 : w11.cell? ⟨g5, o5 + j * 5 + 2, none⟩ = some (.int .i64 (ps[j].2.stamp)) := (msg5 hm ea5 hlt hpe).c2; have c3 : w11.cell? ⟨g5, o5 + j * 5 + 3, none⟩ = some (.int .i64 (ps[j].2.late)) := (msg5 hm ea5 hlt hpe).c3; have c4 : w11.cell? ⟨g5, o5 + j * 5 + 4, none⟩ = some (.int .i64 (ps[j].2.seq)) := (msg5 hm ea5 hlt hpe).c4; simp [go_sem, e29, c0, c1, c2, c3, c4]) ?_
      clear hF a; intro a hF
      refine E.val (d := 31) (v := .slice (some ⟨w11.heap.size, 0, none⟩) 1 1) (w' := w11.alloc (.cells #[.slice a5 (ps[j].2.words.length) c5, .int .i64 (ps[j].2.lane), .int .i64 (ps[j].2.stamp), .int .i64 (ps[j].2.late), .int .i64 (ps[j].2.seq)] 27)) rfl rfl rfl hF (by have e30 : a.tmps[30]?.getD undef = .agg #[.slice a5 (ps[j].2.words.length) c5, .int .i64 (ps[j].2.lane), .int .i64 (ps[j].2.stamp), .int .i64 (ps[j].2.late), .int .i64 (ps[j].2.seq)] := hF.at 30 rfl; simp [go_sem, e30]) ?_
      clear hF a; intro a hF
      have hb14 := (Below.refl w11.heap.size w11).alloc (Nat.le_refl _) (.cells #[.slice a5 (ps[j].2.words.length) c5, .int .i64 (ps[j].2.lane), .int .i64 (ps[j].2.stamp), .int .i64 (ps[j].2.late), .int .i64 (ps[j].2.seq)] 27)
      have p31 : pts (w11.alloc (.cells #[.slice a5 (ps[j].2.words.length) c5, .int .i64 (ps[j].2.lane), .int .i64 (ps[j].2.stamp), .int .i64 (ps[j].2.late), .int .i64 (ps[j].2.seq)] 27)) (w11.heap.size) [.slice a5 (ps[j].2.words.length) c5, .int .i64 (ps[j].2.lane), .int .i64 (ps[j].2.stamp), .int .i64 (ps[j].2.late), .int .i64 (ps[j].2.seq)] 27 := pts.newA w11 #[.slice a5 (ps[j].2.words.length) c5, .int .i64 (ps[j].2.lane), .int .i64 (ps[j].2.stamp), .int .i64 (ps[j].2.late), .int .i64 (ps[j].2.seq)] 27
      have z15 : w11.heap.size < (w11.alloc (.cells #[.slice a5 (ps[j].2.words.length) c5, .int .i64 (ps[j].2.lane), .int .i64 (ps[j].2.stamp), .int .i64 (ps[j].2.late), .int .i64 (ps[j].2.seq)] 27)).heap.size := by simp
      have ne17 : ∀ x, (Value.slice ra_o6 (((ps.take j).filter (fun p => !lateV now p)).length) rc_o6).ownBlock = some x → x ≠ w11.heap.size := fun x hx e => by have := K.own_lt o6 hx; omega
      have ne18 : ∀ x, (Value.slice ra_o7 (((ps.take j).filter (lateV now)).length) rc_o7).ownBlock = some x → x ≠ w11.heap.size := fun x hx e => by have := K.own_lt o7 hx; omega
      replace hm := hm.below hb14
      replace p2 := p2.below hb14
      replace p4 := p4.below hb14
      replace o6 := K.own_of o6 (fun x hx => hb14.block x (K.own_lt o6 hx))
      replace o7 := K.own_of o7 (fun x hx => hb14.block x (K.own_lt o7 hx))
      replace hC := hC.below hb14
      clear hb14; generalize w11.alloc (.cells #[.slice a5 (ps[j].2.words.length) c5, .int .i64 (ps[j].2.lane), .int .i64 (ps[j].2.stamp), .int .i64 (ps[j].2.late), .int .i64 (ps[j].2.seq)] 27) = w16 at p31 z15 hC hm p2 p4 o6 o7 ⊢
      refine E.push (enc := encM) (y := (Value.slice a5 (ps[j].2.words.length) c5, ps[j].2)) elM hF rfl rfl rfl 25 31 rfl (hF.at 25 rfl) o7 (by omega) (hF.at 31 rfl) p31 rfl (by simp [encM, Value.oneCell']) (by first | omega | (simp; omega)) (by omega) ?_
      rintro ra19 rc20 w23 o7' hg21 ho22
      have hc24 := E.chg_grown hg21; have z25 := hc24.size
      clear hF a; intro a hF
      have ol_o6 : ∀ x, (Value.slice ra_o6 (((ps.take j).filter (fun p => !lateV now p)).length) rc_o6).ownBlock = some x → x < w16.heap.size := fun x e => K.own_lt o6 e
      replace hm := hm.kept hc24.size (fun x hx hl => hc24.block x hl (fun hn => by have := own_block_ge o7 x hn; (try dsimp only at hx); omega))
      replace p2 := p2.chg hc24 (fun e => by have := own_block_ge o7 _ e; omega)
      replace p4 := p4.chg hc24 (fun e => by have := own_block_ge o7 _ e; omega)
      replace o6 := K.own_of o6 (fun x hx => hc24.block x (K.own_lt o6 hx) (fun hn => nr7 x hn hx))
      replace hC := hC.trans hc24 (fun x hx => .inr (by have := own_block_ge o7 x hx; omega))
      replace nr7 : ∀ x, (Value.slice ra19 (((ps.take j).filter (lateV now) ++ [(Value.slice a5 (ps[j].2.words.length) c5, ps[j].2)]).length) rc20).ownBlock = some x → (Value.slice ra_o6 (((ps.take j).filter (fun p => !lateV now p)).length) rc_o6).ownBlock ≠ some x := fun x hx e => (ho22 x hx).elim (fun h => nr7 x h e) (fun h => by have := ol_o6 x e; omega)
      replace o7 := o7'; clear hc24 hg21 ho22 ol_o6
      refine E.val (d := 7) (v := .slice ra19 (((ps.take j).filter (lateV now) ++ [(Value.slice a5 (ps[j].2.words.length) c5, ps[j].2)]).length) rc20) (w' := w23) rfl rfl rfl hF (by exact E.xAs rfl (hF.at 32 rfl)) ?_
      clear hF a; intro a hF
      refine wpList_nil ?_
      refine E.in_norm ?_
      replace hF := hF.sub (m' := [(7, .slice ra19 (((ps.take j).filter (lateV now) ++ [(Value.slice a5 (ps[j].2.words.length) c5, ps[j].2)]).length) rc20), (8, .int .i64 (j : Int)), (6, .slice ra_o6 (((ps.take j).filter (fun p => !lateV now p)).length) rc_o6), (4, .pointer (some ⟨w3.heap.size, 0, none⟩)), (2, .pointer (some ⟨w.heap.size, 0, none⟩)), (1, .int .i64 now)]) ⟨rfl, rfl, rfl, rfl, rfl, rfl, trivial⟩
      refine E.then_norm (hK7 _ _ ?_)
      refine wp_region_lit ?_  -- R4
      refine E.val (d := 15) (v := .int .i64 (j : Int)) (w' := w23) rfl rfl rfl hF (by exact E.xMv rfl (hF.at 8 rfl)) ?_
      clear hF a; intro a hF
      refine E.val (d := 16) (v := .int .i64 ((j : Int) + 1)) (w' := w23) rfl rfl rfl hF (by have hr : IntKind.i64.wrap ((j : Int) + 1) = (j : Int) + 1 := E.wrapI (by omega) (by omega); have e15 : a.tmps[15]?.getD undef = .int .i64 (j : Int) := hF.at 15 rfl; simp [go_sem, e15, hr]) ?_
      clear hF a; intro a hF
      refine E.val (d := 8) (v := .int .i64 ((j : Int) + 1)) (w' := w23) rfl rfl rfl hF (by exact E.xAs rfl (hF.at 16 rfl)) ?_
      clear hF a; intro a hF
      refine wpList_nil ?_
      refine E.then_norm ?_
      have hl1 := K.filter_take (lateV now) hlt; have hl2 := K.filter_take (fun p => !lateV now p) hlt; rw [hpe] at hl1 hl2
      have hv : lateV now (Value.slice a5 ps[j].2.words.length c5, ps[j].2) = true := hc13
      simp only [hv, Bool.not_true, Bool.not_false, Bool.false_eq_true, if_true, if_false, List.append_nil] at hl1 hl2
      have hl26 : ((ps.take j).filter (lateV now) ++ [(Value.slice a5 (ps[j].2.words.length) c5, ps[j].2)]) = (ps.take (j + 1)).filter (lateV now) := hl1.symm
      rw [hl26] at o7 hF nr7
      clear hl26
      have hl27 : (ps.take j).filter (fun p => !lateV now p) = (ps.take (j + 1)).filter (fun p => !lateV now p) := hl2.symm
      rw [hl27] at o6 hF nr7
      clear hl27
      exact ⟨_, by omega, j + 1, ra_o6, rc_o6, ra19, rc20, rfl, hF.sub (by exact ⟨rfl, rfl, rfl, rfl, rfl, rfl, trivial⟩), hC, by omega, hm, p2, p4, o6, o7, by omega, nr7⟩
    ·
      refine E.condF rfl (((hF.at 24 rfl).trans (congrArg Value.bool hc13))) ?_
      have hle := K.filter_take_le ps j (fun p => !lateV now p)
      refine wp_region_lit ?_  -- R8
      refine E.val (d := 33) (v := .slice ra_o6 (((ps.take j).filter (fun p => !lateV now p)).length) rc_o6) (w' := w11) rfl rfl rfl hF (by exact E.xMv rfl (hF.at 6 rfl)) ?_
      clear hF a; intro a hF
      refine E.val (d := 34) (v := .pointer (some ⟨w.heap.size, 1, none⟩)) (w' := w11) rfl rfl rfl hF (by have e2 : a.tmps[2]?.getD undef = .pointer (some ⟨w.heap.size, 0, none⟩) := hF.at 2 rfl; simp [go_sem, e2]) ?_
      clear hF a; intro a hF
      refine E.val (d := 35) (v := .slice al ps.length cl) (w' := w11) rfl rfl rfl hF (by have c1 : w11.cell? ⟨w.heap.size, 1, none⟩ = some (.slice al ps.length cl) := p2.cell 1; have e34 : a.tmps[34]?.getD undef = .pointer (some ⟨w.heap.size, 1, none⟩) := hF.at 34 rfl; simp [go_sem, e34, c1]) ?_
      clear hF a; intro a hF
      refine E.val (d := 36) (v := .int .i64 (j : Int)) (w' := w11) rfl rfl rfl hF (by exact E.xMv rfl (hF.at 8 rfl)) ?_
      clear hF a; intro a hF
      refine E.val (d := 37) (v := .pointer (some ⟨g5, o5 + j * 5, none⟩)) (w' := w11) rfl rfl rfl hF (by exact E.xIdx (x := .tmp 36) (i := j) (ofs := o5) (k := 5) rfl (by have e := hF.at 35 rfl; rw [ea5] at e; exact e) ((E.ev_of (hF.at 36 rfl))) Try.underlying44 (by kernel_rfl) (by omega)) ?_
      clear hF a; intro a hF
      refine E.val (d := 38) (v := .agg #[.slice a5 (ps[j].2.words.length) c5, .int .i64 (ps[j].2.lane), .int .i64 (ps[j].2.stamp), .int .i64 (ps[j].2.late), .int .i64 (ps[j].2.seq)]) (w' := w11) rfl rfl rfl hF (by have e37 : a.tmps[37]?.getD undef = .pointer (some ⟨g5, o5 + j * 5, none⟩) := hF.at 37 rfl; have c0 : w11.cell? ⟨g5, o5 + j * 5, none⟩ = some (.slice a5 (ps[j].2.words.length) c5) := (msg5 hm ea5 hlt hpe).c0; have c1 : w11.cell? ⟨g5, o5 + j * 5 + 1, none⟩ = some (.int .i64 (ps[j].2.lane)) := (msg5 hm ea5 hlt hpe).c1; have c2 : w11.cell? ⟨g5, o5 + j * 5 + 2, none⟩ = some (.int .i64 (ps[j].2.stamp)) := (msg5 hm ea5 hlt hpe).c2; have c3 : w11.cell? ⟨g5, o5 + j * 5 + 3, none⟩ = some (.int .i64 (ps[j].2.late)) := (msg5 hm ea5 hlt hpe).c3; have c4 : w11.cell? ⟨g5, o5 + j * 5 + 4, none⟩ = some (.int .i64 (ps[j].2.seq)) := (msg5 hm ea5 hlt hpe).c4; simp [go_sem, e37, c0, c1, c2, c3, c4]) ?_
      clear hF a; intro a hF
      refine E.val (d := 39) (v := .slice (some ⟨w11.heap.size, 0, none⟩) 1 1) (w' := w11.alloc (.cells #[.slice a5 (ps[j].2.words.length) c5, .int .i64 (ps[j].2.lane), .int .i64 (ps[j].2.stamp), .int .i64 (ps[j].2.late), .int .i64 (ps[j].2.seq)] 27)) rfl rfl rfl hF (by have e38 : a.tmps[38]?.getD undef = .agg #[.slice a5 (ps[j].2.words.length) c5, .int .i64 (ps[j].2.lane), .int .i64 (ps[j].2.stamp), .int .i64 (ps[j].2.late), .int .i64 (ps[j].2.seq)] := hF.at 38 rfl; simp [go_sem, e38]) ?_
      clear hF a; intro a hF
      have hb28 := (Below.refl w11.heap.size w11).alloc (Nat.le_refl _) (.cells #[.slice a5 (ps[j].2.words.length) c5, .int .i64 (ps[j].2.lane), .int .i64 (ps[j].2.stamp), .int .i64 (ps[j].2.late), .int .i64 (ps[j].2.seq)] 27)
      have p39 : pts (w11.alloc (.cells #[.slice a5 (ps[j].2.words.length) c5, .int .i64 (ps[j].2.lane), .int .i64 (ps[j].2.stamp), .int .i64 (ps[j].2.late), .int .i64 (ps[j].2.seq)] 27)) (w11.heap.size) [.slice a5 (ps[j].2.words.length) c5, .int .i64 (ps[j].2.lane), .int .i64 (ps[j].2.stamp), .int .i64 (ps[j].2.late), .int .i64 (ps[j].2.seq)] 27 := pts.newA w11 #[.slice a5 (ps[j].2.words.length) c5, .int .i64 (ps[j].2.lane), .int .i64 (ps[j].2.stamp), .int .i64 (ps[j].2.late), .int .i64 (ps[j].2.seq)] 27
      have z29 : w11.heap.size < (w11.alloc (.cells #[.slice a5 (ps[j].2.words.length) c5, .int .i64 (ps[j].2.lane), .int .i64 (ps[j].2.stamp), .int .i64 (ps[j].2.late), .int .i64 (ps[j].2.seq)] 27)).heap.size := by simp
      have ne31 : ∀ x, (Value.slice ra_o6 (((ps.take j).filter (fun p => !lateV now p)).length) rc_o6).ownBlock = some x → x ≠ w11.heap.size := fun x hx e => by have := K.own_lt o6 hx; omega
      have ne32 : ∀ x, (Value.slice ra_o7 (((ps.take j).filter (lateV now)).length) rc_o7).ownBlock = some x → x ≠ w11.heap.size := fun x hx e => by have := K.own_lt o7 hx; omega
      replace hm := hm.below hb28
      replace p2 := p2.below hb28
      replace p4 := p4.below hb28
      replace o6 := K.own_of o6 (fun x hx => hb28.block x (K.own_lt o6 hx))
      replace o7 := K.own_of o7 (fun x hx => hb28.block x (K.own_lt o7 hx))
      replace hC := hC.below hb28
      clear hb28; generalize w11.alloc (.cells #[.slice a5 (ps[j].2.words.length) c5, .int .i64 (ps[j].2.lane), .int .i64 (ps[j].2.stamp), .int .i64 (ps[j].2.late), .int .i64 (ps[j].2.seq)] 27) = w30 at p39 z29 hC hm p2 p4 o6 o7 ⊢
      refine E.push (enc := encM) (y := (Value.slice a5 (ps[j].2.words.length) c5, ps[j].2)) elM hF rfl rfl rfl 33 39 rfl (hF.at 33 rfl) o6 (by omega) (hF.at 39 rfl) p39 rfl (by simp [encM, Value.oneCell']) (by first | omega | (simp; omega)) (by omega) ?_
      rintro ra33 rc34 w37 o6' hg35 ho36
      have hc38 := E.chg_grown hg35; have z39 := hc38.size
      clear hF a; intro a hF
      have ol_o7 : ∀ x, (Value.slice ra_o7 (((ps.take j).filter (lateV now)).length) rc_o7).ownBlock = some x → x < w30.heap.size := fun x e => K.own_lt o7 e
      replace hm := hm.kept hc38.size (fun x hx hl => hc38.block x hl (fun hn => by have := own_block_ge o6 x hn; (try dsimp only at hx); omega))
      replace p2 := p2.chg hc38 (fun e => by have := own_block_ge o6 _ e; omega)
      replace p4 := p4.chg hc38 (fun e => by have := own_block_ge o6 _ e; omega)
      replace o7 := K.own_of o7 (fun x hx => hc38.block x (K.own_lt o7 hx) (fun hn => nr7 x hx hn))
      replace hC := hC.trans hc38 (fun x hx => .inr (by have := own_block_ge o6 x hx; omega))
      replace nr7 : ∀ x, (Value.slice ra_o7 (((ps.take j).filter (lateV now)).length) rc_o7).ownBlock = some x → (Value.slice ra33 (((ps.take j).filter (fun p => !lateV now p) ++ [(Value.slice a5 (ps[j].2.words.length) c5, ps[j].2)]).length) rc34).ownBlock ≠ some x := fun x e hx => (ho36 x hx).elim (fun h => nr7 x e h) (fun h => by have := ol_o7 x e; omega)
      replace o6 := o6'; clear hc38 hg35 ho36 ol_o7
      refine E.val (d := 6) (v := .slice ra33 (((ps.take j).filter (fun p => !lateV now p) ++ [(Value.slice a5 (ps[j].2.words.length) c5, ps[j].2)]).length) rc34) (w' := w37) rfl rfl rfl hF (by exact E.xAs rfl (hF.at 40 rfl)) ?_
      clear hF a; intro a hF
      refine wpList_nil ?_
      refine E.in_norm ?_
      replace hF := hF.sub (m' := [(6, .slice ra33 (((ps.take j).filter (fun p => !lateV now p) ++ [(Value.slice a5 (ps[j].2.words.length) c5, ps[j].2)]).length) rc34), (8, .int .i64 (j : Int)), (7, .slice ra_o7 (((ps.take j).filter (lateV now)).length) rc_o7), (4, .pointer (some ⟨w3.heap.size, 0, none⟩)), (2, .pointer (some ⟨w.heap.size, 0, none⟩)), (1, .int .i64 now)]) ⟨rfl, rfl, rfl, rfl, rfl, rfl, trivial⟩
      refine E.then_norm (hK7 _ _ ?_)
      refine wp_region_lit ?_  -- R4
      refine E.val (d := 15) (v := .int .i64 (j : Int)) (w' := w37) rfl rfl rfl hF (by exact E.xMv rfl (hF.at 8 rfl)) ?_
      clear hF a; intro a hF
      refine E.val (d := 16) (v := .int .i64 ((j : Int) + 1)) (w' := w37) rfl rfl rfl hF (by have hr : IntKind.i64.wrap ((j : Int) + 1) = (j : Int) + 1 := E.wrapI (by omega) (by omega); have e15 : a.tmps[15]?.getD undef = .int .i64 (j : Int) := hF.at 15 rfl; simp [go_sem, e15, hr]) ?_
      clear hF a; intro a hF
      refine E.val (d := 8) (v := .int .i64 ((j : Int) + 1)) (w' := w37) rfl rfl rfl hF (by exact E.xAs rfl (hF.at 16 rfl)) ?_
      clear hF a; intro a hF
      refine wpList_nil ?_
      refine E.then_norm ?_
      have hl1 := K.filter_take (lateV now) hlt; have hl2 := K.filter_take (fun p => !lateV now p) hlt; rw [hpe] at hl1 hl2
      have hv : lateV now (Value.slice a5 ps[j].2.words.length c5, ps[j].2) = false := hc13
      simp only [hv, Bool.not_true, Bool.not_false, Bool.false_eq_true, if_true, if_false, List.append_nil] at hl1 hl2
      have hl40 : ((ps.take j).filter (fun p => !lateV now p) ++ [(Value.slice a5 (ps[j].2.words.length) c5, ps[j].2)]) = (ps.take (j + 1)).filter (fun p => !lateV now p) := hl2.symm
      rw [hl40] at o6 hF nr7
      clear hl40
      have hl41 : (ps.take j).filter (lateV now) = (ps.take (j + 1)).filter (lateV now) := hl1.symm
      rw [hl41] at o7 hF nr7
      clear hl41
      exact ⟨_, by omega, j + 1, ra33, rc34, ra_o7, rc_o7, rfl, hF.sub (by exact ⟨rfl, rfl, rfl, rfl, rfl, rfl, trivial⟩), hC, by omega, hm, p2, p4, o6, o7, by omega, nr7⟩
  ·
    have hje : j = ps.length := by have := of_decide_eq_false hc9; omega
    refine E.condF rfl (((hF.at 14 rfl).trans (congrArg Value.bool hc9))) ?_
    refine wp_exit ?_
    refine E.then_exit ?_
    refine E.then_exit ?_
    refine E.exit_in ?_
    replace hF := hF.sub (m' := [(7, .slice ra_o7 (((ps.take j).filter (lateV now)).length) rc_o7), (6, .slice ra_o6 (((ps.take j).filter (fun p => !lateV now p)).length) rc_o6), (4, .pointer (some ⟨w3.heap.size, 0, none⟩)), (2, .pointer (some ⟨w.heap.size, 0, none⟩))]) ⟨rfl, rfl, rfl, rfl, trivial⟩
    refine E.then_norm (hK3 _ _ ?_)
    refine wp_seq_k fun K10 hK10 => ?_
    refine wp_region_lit ?_  -- R9
    refine E.val (d := 41) (v := .slice ra_o6 (((ps.take j).filter (fun p => !lateV now p)).length) rc_o6) (w' := wr) rfl rfl rfl hF (by exact E.xMv rfl (hF.at 6 rfl)) ?_
    clear hF a; intro a hF
    refine E.val (d := 42) (v := .pointer (some ⟨w.heap.size, 1, none⟩)) (w' := wr) rfl rfl rfl hF (by have e2 : a.tmps[2]?.getD undef = .pointer (some ⟨w.heap.size, 0, none⟩) := hF.at 2 rfl; simp [go_sem, e2]) ?_
    clear hF a; intro a hF
    refine E.eff (w' := wr.setCell ⟨w.heap.size, 1, none⟩ (.slice ra_o6 (((ps.take j).filter (fun p => !lateV now p)).length) rc_o6)) rfl rfl (by have c := p2.cell 1; have fz := p2.frozen 1; have lt := p2.lt; simp only [List.getElem?_cons_zero, List.getElem?_cons_succ] at c; have e42 : a.tmps[42]?.getD undef = .pointer (some ⟨w.heap.size, 1, none⟩) := hF.at 42 rfl; have e41 : a.tmps[41]?.getD undef = .slice ra_o6 (((ps.take j).filter (fun p => !lateV now p)).length) rc_o6 := hF.at 41 rfl; simp [go_sem, e42, e41, c, fz, lt]) ?_
    have hc42 : Chg (fun x => x = w.heap.size) wr (wr.setCell ⟨w.heap.size, 1, none⟩ (.slice ra_o6 (((ps.take j).filter (fun p => !lateV now p)).length) rc_o6)) := E.Chg.set1 _ _ _ _
    have z44 := hc42.size
    replace hm := hm.kept hc42.size (fun x hx hl => hc42.block x hl (fun hn => by have hn : x = w.heap.size := hn; (try dsimp only at hx); omega))
    replace p4 := p4.chg hc42 (fun e => by have e : w3.heap.size = w.heap.size := e; omega)
    replace o6 := K.own_of o6 (fun x hx => hc42.block x (K.own_lt o6 hx) (fun hn => by have hn : x = w.heap.size := hn; have := own_block_ge o6 x hx; omega))
    replace o7 := K.own_of o7 (fun x hx => hc42.block x (K.own_lt o7 hx) (fun hn => by have hn : x = w.heap.size := hn; have := own_block_ge o7 x hx; omega))
    replace p2 : pts (wr.setCell ⟨w.heap.size, 1, none⟩ (.slice ra_o6 (((ps.take j).filter (fun p => !lateV now p)).length) rc_o6)) (w.heap.size) [.int .i64 hold, .slice ra_o6 (((ps.take j).filter (fun p => !lateV now p)).length) rc_o6, .slice aw nw cw] 56 := E.pts.set1 p2 rfl
    replace hC := hC.trans hc42 (fun x hx => .inr (by omega))
    clear hc42; generalize wr.setCell ⟨w.heap.size, 1, none⟩ (.slice ra_o6 (((ps.take j).filter (fun p => !lateV now p)).length) rc_o6) = w43 at hC z44 hm p2 p4 o6 o7 ⊢
    refine wpList_nil ?_
    refine E.then_norm (hK10 _ _ ?_)
    refine wp_seq_k fun K11 hK11 => ?_
    refine wp_region_lit ?_  -- R10
    refine E.val (d := 43) (v := .agg #[.int .i64 hold, .slice ra_o6 (((ps.take j).filter (fun p => !lateV now p)).length) rc_o6, .slice aw nw cw]) (w' := w43) rfl rfl rfl hF (by exact xLoad rfl (hF.at 2 rfl) p2 Try.underlying56 rfl (by kernel_rfl)) ?_
    clear hF a; intro a hF
    refine E.val (d := 44) (v := .slice ra_o7 (((ps.take j).filter (lateV now)).length) rc_o7) (w' := w43) rfl rfl rfl hF (by exact E.xMv rfl (hF.at 7 rfl)) ?_
    clear hF a; intro a hF
    refine E.eff (w' := setN w43 (w3.heap.size) 0 [.int .i64 hold, .slice ra_o6 (((ps.take j).filter (fun p => !lateV now p)).length) rc_o6, .slice aw nw cw]) rfl rfl (by exact xStore rfl (hF.at 4 rfl) (hF.at 43 rfl) p4 rfl (by kernel_rfl) rfl) ?_
    have hc45 : Chg (fun x => x = w3.heap.size) w43 (setN w43 (w3.heap.size) 0 [.int .i64 hold, .slice ra_o6 (((ps.take j).filter (fun p => !lateV now p)).length) rc_o6, .slice aw nw cw]) := setN_own _ _ _ _
    have z47 := hc45.size
    replace hm := hm.kept hc45.size (fun x hx hl => hc45.block x hl (fun hn => by have hn : x = w3.heap.size := hn; (try dsimp only at hx); omega))
    replace p2 := p2.chg hc45 (fun e => by have e : w.heap.size = w3.heap.size := e; omega)
    replace o6 := K.own_of o6 (fun x hx => hc45.block x (K.own_lt o6 hx) (fun hn => by have hn : x = w3.heap.size := hn; have := own_block_ge o6 x hx; omega))
    replace o7 := K.own_of o7 (fun x hx => hc45.block x (K.own_lt o7 hx) (fun hn => by have hn : x = w3.heap.size := hn; have := own_block_ge o7 x hx; omega))
    replace p4 : pts (setN w43 (w3.heap.size) 0 [.int .i64 hold, .slice ra_o6 (((ps.take j).filter (fun p => !lateV now p)).length) rc_o6, .slice aw nw cw]) (w3.heap.size) [.int .i64 hold, .slice ra_o6 (((ps.take j).filter (fun p => !lateV now p)).length) rc_o6, .slice aw nw cw] 56 := setN_pts0 p4 _ rfl
    replace hC := hC.trans hc45 (fun x hx => .inr (by omega))
    clear hc45; generalize setN w43 (w3.heap.size) 0 [.int .i64 hold, .slice ra_o6 (((ps.take j).filter (fun p => !lateV now p)).length) rc_o6, .slice aw nw cw] = w46 at hC z47 hm p2 p4 o6 o7 ⊢
    refine E.val (d := 5) (v := .slice ra_o7 (((ps.take j).filter (lateV now)).length) rc_o7) (w' := w46) rfl rfl rfl hF (by exact E.xAs rfl (hF.at 44 rfl)) ?_
    clear hF a; intro a hF
    refine wpList_nil ?_
    replace hF := hF.sub (m' := [(5, .slice ra_o7 (((ps.take j).filter (lateV now)).length) rc_o7), (4, .pointer (some ⟨w3.heap.size, 0, none⟩))]) ⟨rfl, rfl, trivial⟩
    refine E.then_norm (hK11 _ _ ?_)
    refine wp_ret ?_
    refine E.ret (v := .tuple #[.agg #[.int .i64 hold, .slice ra_o6 (((ps.take j).filter (fun p => !lateV now p)).length) rc_o6, .slice aw nw cw], .slice ra_o7 (((ps.take j).filter (lateV now)).length) rc_o7]) hF (by have e4 : a.tmps[4]?.getD undef = .pointer (some ⟨w3.heap.size, 0, none⟩) := hF.at 4 rfl; have c4_0 : w46.cell? ⟨w3.heap.size, 0, none⟩ = some (.int .i64 hold) := p4.cell 0; have c4_1 : w46.cell? ⟨w3.heap.size, 1, none⟩ = some (.slice ra_o6 (((ps.take j).filter (fun p => !lateV now p)).length) rc_o6) := p4.cell 1; have c4_2 : w46.cell? ⟨w3.heap.size, 2, none⟩ = some (.slice aw nw cw) := p4.cell 2; have e5 : a.tmps[5]?.getD undef = .slice ra_o7 (((ps.take j).filter (lateV now)).length) rc_o7 := hF.at 5 rfl; simp [results, Try.results29, go_sem, e4, c4_0, c4_1, c4_2, e5]) ?_
    have hB := E.below_of hC
    rw [hje, List.take_length] at o6 o7 ⊢
    exact ⟨_, _, rfl, (MsgsAt.of_own o6 ((h0m.words.sub (fun p hp => (List.mem_filter.1 hp).1)).below hB)).mono (fun x hx _ => by omega) (fun _ h _ => h), (MsgsAt.of_own o7 ((h0m.words.sub (fun p hp => (List.mem_filter.1 hp).1)).below hB)).mono (fun x hx _ => by omega) (fun _ h _ => h), hB⟩
  -- KLAW
theorem own_rowAt {α : Type} {enc : α → List Value} {k base n : Nat} {T : TypeId} {vl : List α} (h : w.ownsRow base T k v n (flat enc vl)) (hk : ∀ x, (enc x).length = k := by intro x; rfl) (hn : n = vl.length := by rfl) : RowAt enc k (fun b => v.ownBlock = some b) w v vl := by
  obtain ⟨ao, cap, hv, hl, hx⟩ := RowAt.of_own hk h hn
  refine ⟨ao, cap, hv, hl, ?_⟩
  rcases hx with hx | ⟨g, o, h1, h2, h3, h4⟩
  · exact .inl hx
  · exact .inr ⟨g, o, h1, by rw [hv, h1]; rfl, h3, h4⟩
theorem sub_del {f : Nat} {e : Int × Int} (h : e ∈ ([] : List (Int × Int)) ++ l.take f ++ l.drop (f + 1)) : e ∈ l := by
  rw [List.nil_append] at h
  rcases List.mem_append.1 h with h | h
  · exact List.mem_of_mem_take h
  · exact List.mem_of_mem_drop h
def ExpR (w : World) (ok : Nat → Prop) (hold now : Int) (lv : Value) (l : List (Int × Int)) (e : Ending) (w' : World) : Prop :=
  ∃ v1 v2, e = .returned (.tuple #[.agg #[.int .i64 hold, lv, v1], v2]) ∧ QAt (fun b => ok b ∨ w.heap.size ≤ b) w' v1 (l.filter (fun e => !lateQ now e)) ∧ IntsAt (fun b => w.heap.size ≤ b) w' v2 (((Sp.sortL Prod.snd l).filter (lateQ now)).map Prod.fst) ∧ Below w.heap.size w w'
set_option maxRecDepth 100000 in
theorem qexpire_c (h : QAt ok w (.slice aw l.length cw) l) (hsm : l.length < 100000) (hct0 : ∀ e ∈ l, cutT e.2 = e.2) (hold now : Int) (nl : Nat) : Calls Try.prog 28 #[.agg #[.int .i64 hold, .slice al nl cl, .slice aw l.length cw], .int .i64 now] w (ExpR w ok hold now (.slice al nl cl) l) := by
  obtain ⟨-, hlc, hcm, -⟩ := h.get
  replace h := h.mono (ok' := fun x => ok x ∧ x < w.heap.size) (fun _ h hl => ⟨h, hl⟩)
  -- WALK ref18 expire
  refine E.enter (l := [.agg #[.int .i64 hold, .slice al nl cl, .slice aw l.length cw], .int .i64 now]) Try.func28 rfl 73 rfl rfl ?_
  intro a hF
  simp only [E.args] at hF
  have hC := Chg.refl (fun _ => False) w
  refine wp_seq_k fun K1 hK1 => ?_
  refine wp_region_lit ?_  -- R0
  refine E.val (d := 2) (v := .pointer (some ⟨w.heap.size, 0, none⟩)) (w' := w.alloc (.cells #[.int .i64 hold, .slice al nl cl, .slice aw l.length cw] 56)) rfl rfl rfl hF (by have e0 : a.tmps[0]?.getD undef = .agg #[.int .i64 hold, .slice al nl cl, .slice aw l.length cw] := hF.at 0 rfl; simp [go_sem, e0]) ?_
  clear hF a; intro a hF
  have hb1 := (Below.refl w.heap.size w).alloc (Nat.le_refl _) (.cells #[.int .i64 hold, .slice al nl cl, .slice aw l.length cw] 56)
  have p2 : pts (w.alloc (.cells #[.int .i64 hold, .slice al nl cl, .slice aw l.length cw] 56)) (w.heap.size) [.int .i64 hold, .slice al nl cl, .slice aw l.length cw] 56 := pts.newA w #[.int .i64 hold, .slice al nl cl, .slice aw l.length cw] 56
  have z2 : w.heap.size < (w.alloc (.cells #[.int .i64 hold, .slice al nl cl, .slice aw l.length cw] 56)).heap.size := by simp
  replace h := h.below hb1
  replace hC := hC.below hb1
  clear hb1; generalize w.alloc (.cells #[.int .i64 hold, .slice al nl cl, .slice aw l.length cw] 56) = w3 at p2 z2 hC h ⊢
  refine E.val (d := 4) (v := .pointer (some ⟨w3.heap.size, 0, none⟩)) (w' := w3.alloc (.cells #[.int .i64 0, .slice none 0 0, .slice none 0 0] 56)) rfl rfl rfl hF (by simp [go_sem]) ?_
  clear hF a; intro a hF
  have hb4 := (Below.refl w3.heap.size w3).alloc (Nat.le_refl _) (.cells #[.int .i64 0, .slice none 0 0, .slice none 0 0] 56)
  have p4 : pts (w3.alloc (.cells #[.int .i64 0, .slice none 0 0, .slice none 0 0] 56)) (w3.heap.size) [.int .i64 0, .slice none 0 0, .slice none 0 0] 56 := pts.newA w3 #[.int .i64 0, .slice none 0 0, .slice none 0 0] 56
  have z5 : w3.heap.size < (w3.alloc (.cells #[.int .i64 0, .slice none 0 0, .slice none 0 0] 56)).heap.size := by simp
  replace h := h.below hb4
  replace p2 := p2.below hb4
  replace hC := hC.below hb4
  clear hb4; generalize w3.alloc (.cells #[.int .i64 0, .slice none 0 0, .slice none 0 0] 56) = w6 at p4 z5 hC h p2 ⊢
  refine E.val (d := 5) (v := .slice none 0 0) (w' := w6) rfl rfl rfl hF (by exact E.xAsC rfl) ?_
  clear hF a; intro a hF
  refine wpList_nil ?_
  refine E.then_norm (hK1 _ _ ?_)
  refine wp_seq_k fun K2 hK2 => ?_
  refine wp_region_lit ?_  -- R1
  refine E.val (d := 6) (v := .slice none 0 0) (w' := w6) rfl rfl rfl hF (by exact E.xAsC rfl) ?_
  clear hF a; intro a hF
  refine wpList_nil ?_
  have o6 : w6.ownsRow (w6.heap.size) 3 1 (.slice none 0 0) ([] : List (Int)).length (flat E.encI []) := E.own_nil E.encI _ _ _ _
  replace h := h.mono (ok' := (fun x => ((ok x ∧ x < w.heap.size) ∨ w6.heap.size ≤ x) ∧ ((Value.slice none 0 0).ownBlock ≠ some x))) (fun x hx hl => by have hx0 := hx; exact ⟨.inl hx0, fun e => E.nil_block e⟩)
  refine E.then_norm (hK2 _ _ ?_)
  refine wp_block ?_
  refine wp_loop_ghost (fun g a wr => ∃ (ws : List (Int × Int)) (out : List Int) (ao : Option Addr) (co : Nat) (ra_o6 : Option Addr) (rc_o6 : Nat), (g = ws.length) ∧ (E.Fr 73 [(6, .slice ra_o6 ((out).length) rc_o6), (4, .pointer (some ⟨w3.heap.size, 0, none⟩)), (2, .pointer (some ⟨w.heap.size, 0, none⟩)), (1, .int .i64 now)] a) ∧ (Chg (fun _ => False) w wr) ∧ (w6.heap.size ≤ wr.heap.size) ∧ (QAt (fun x => ((ok x ∧ x < w.heap.size) ∨ w6.heap.size ≤ x) ∧ ((Value.slice ra_o6 ((out).length) rc_o6).ownBlock ≠ some x)) wr (.slice ao ws.length co) ws) ∧ (pts wr (w.heap.size) [.int .i64 hold, .slice al nl cl, .slice ao ws.length co] 56) ∧ (pts wr (w3.heap.size) [.int .i64 0, .slice none 0 0, .slice none 0 0] 56) ∧ (wr.ownsRow (w6.heap.size) 3 1 (.slice ra_o6 ((out).length) rc_o6) (out).length (flat E.encI (out))) ∧ (ws.length ≤ co ∧ co ≤ 9223372036854775807 ∧ ws.length < 100000 ∧ out.length + ws.length < 100000) ∧ (∀ e ∈ ws, cutT e.2 = e.2) ∧ (∀ e ∈ ws, e ∈ l) ∧ (out ++ ((Sp.sortL Prod.snd ws).filter (lateQ now)).map Prod.fst = ((Sp.sortL Prod.snd l).filter (lateQ now)).map Prod.fst) ∧ (ws.filter (fun e => !lateQ now e) = l.filter (fun e => !lateQ now e))) _ ⟨l, [], aw, cw, none, 0, rfl, hF.sub (by exact ⟨rfl, rfl, rfl, rfl, trivial⟩), hC, Nat.le_refl _, h, p2, p4, o6, ⟨hlc, hcm, hsm, by simpa using hsm⟩, hct0, fun _ h => h, rfl, rfl⟩ ?_
  clear hF a hC h p2 p4 o6
  rintro g a wr ⟨ws, out, ao, co, ra_o6, rc_o6, rfl, hF, hC, z7, h, p2, p4, o6, hcl, hcut, hsub, hout, hrest⟩
  refine wp_block ?_
  refine wp_seq_k fun K3 hK3 => ?_
  refine wp_region_lit ?_  -- R2
  refine E.val (d := 7) (v := .int .i64 (-1)) (w' := wr) rfl rfl rfl hF (by exact E.xAsC rfl) ?_
  clear hF a; intro a hF
  refine wpList_nil ?_
  refine E.then_norm (hK3 _ _ ?_)
  refine wp_seq_k fun K4 hK4 => ?_
  refine wp_seq_k fun K5 hK5 => ?_
  refine wp_region_lit ?_  -- R3
  refine E.val (d := 8) (v := .int .i64 0) (w' := wr) rfl rfl rfl hF (by exact E.xAsC rfl) ?_
  clear hF a; intro a hF
  refine wpList_nil ?_
  refine E.then_norm (hK5 _ _ ?_)
  refine wp_block ?_
  refine wp_loop_ghost (fun g a wr2 => ∃ (j : Nat) (F : Int), (g = ws.length - j) ∧ (E.Fr 73 [(8, .int .i64 (j : Int)), (7, .int .i64 F), (6, .slice ra_o6 ((out).length) rc_o6), (4, .pointer (some ⟨w3.heap.size, 0, none⟩)), (2, .pointer (some ⟨w.heap.size, 0, none⟩)), (1, .int .i64 now)] a) ∧ (Chg (fun _ => False) w wr2) ∧ (wr.heap.size ≤ wr2.heap.size) ∧ (QAt (fun x => ((ok x ∧ x < w.heap.size) ∨ w6.heap.size ≤ x) ∧ ((Value.slice ra_o6 ((out).length) rc_o6).ownBlock ≠ some x)) wr2 (.slice ao ws.length co) ws) ∧ (pts wr2 (w.heap.size) [.int .i64 hold, .slice al nl cl, .slice ao ws.length co] 56) ∧ (pts wr2 (w3.heap.size) [.int .i64 0, .slice none 0 0, .slice none 0 0] 56) ∧ (wr2.ownsRow (w6.heap.size) 3 1 (.slice ra_o6 ((out).length) rc_o6) (out).length (flat E.encI (out))) ∧ (j ≤ ws.length) ∧ (Sel now ws j F)) _ ⟨0, -1, rfl, hF.sub (by exact ⟨rfl, rfl, rfl, rfl, rfl, rfl, trivial⟩), hC, Nat.le_refl _, h, p2, p4, o6, Nat.zero_le _, Sel.start _ _⟩ ?_
  clear hF a hC h p2 p4 o6
  rintro g a wr2 ⟨j, F, rfl, hF, hC, z8, h, p2, p4, o6, hj, hsel⟩
  refine wp_seq_k fun K6 hK6 => ?_
  refine wp_seq_k fun K7 hK7 => ?_
  refine wp_region_lit ?_  -- R4
  refine E.val (d := 10) (v := .int .i64 (j : Int)) (w' := wr2) rfl rfl rfl hF (by exact E.xMv rfl (hF.at 8 rfl)) ?_
  clear hF a; intro a hF
  refine E.val (d := 11) (v := .pointer (some ⟨w.heap.size, 2, none⟩)) (w' := wr2) rfl rfl rfl hF (by have e2 : a.tmps[2]?.getD undef = .pointer (some ⟨w.heap.size, 0, none⟩) := hF.at 2 rfl; simp [go_sem, e2]) ?_
  clear hF a; intro a hF
  refine E.val (d := 12) (v := .slice ao ws.length co) (w' := wr2) rfl rfl rfl hF (by have c2 : wr2.cell? ⟨w.heap.size, 2, none⟩ = some (.slice ao ws.length co) := p2.cell 2; have e11 : a.tmps[11]?.getD undef = .pointer (some ⟨w.heap.size, 2, none⟩) := hF.at 11 rfl; simp [go_sem, e11, c2]) ?_
  clear hF a; intro a hF
  refine E.val (d := 13) (v := .int .i64 (ws.length : Int)) (w' := wr2) rfl rfl rfl hF (by have e12 : a.tmps[12]?.getD undef = .slice ao ws.length co := hF.at 12 rfl; simp [go_sem, e12]) ?_
  clear hF a; intro a hF
  refine E.val (d := 14) (v := .bool (decide ((j : Int) < (ws.length : Int)))) (w' := wr2) rfl rfl rfl hF (by have e10 : a.tmps[10]?.getD undef = .int .i64 (j : Int) := hF.at 10 rfl; have e13 : a.tmps[13]?.getD undef = .int .i64 (ws.length : Int) := hF.at 13 rfl; simp [go_sem, e10, e13]) ?_
  clear hF a; intro a hF
  refine wpList_nil ?_
  refine E.then_norm (hK7 _ _ ?_)
  rcases E.bsplit (decide ((j : Int) < (ws.length : Int))) with hc9 | hc9
  ·
    have hlt : j < ws.length := by have := of_decide_eq_true hc9; omega
    obtain ⟨g, o, ea, -, hg, c0, c1⟩ := QAt.cells h hlt
    refine E.condT rfl (((hF.at 14 rfl).trans (congrArg Value.bool hc9))) ?_
    refine wp_skip ?_
    refine E.then_norm (hK6 _ _ ?_)
    refine wp_seq_k fun K8 hK8 => ?_
    refine wp_block ?_
    refine wp_seq_k fun K9 hK9 => ?_
    rcases E.bsplit (decide (ws[j].2 ≤ cutT now)) with hc10 | hc10
    ·
      rcases E.bsplit (decide (F < 0)) with hc11 | hc11
      ·
        refine E.tab 28 [Sp.eq (.pointer (some ⟨w.heap.size, 2, none⟩)), Sp.eq (.slice ao ws.length co), Sp.eq (.int .i64 (j : Int)), Sp.eq (.pointer (some ⟨g, o + j * 2, none⟩)), Sp.eq (.pointer (some ⟨g, o + j * 2 + 1, none⟩)), Sp.eq (.int .i64 (ws[j].2)), Sp.eq (.int .i64 now), Sp.eq (.int .i64 (cutT now)), Sp.eq (.bool (decide (ws[j].2 ≤ cutT now))), Sp.eq (.bool (decide (ws[j].2 ≤ cutT now))), Sp.eq (.int .i64 F), Sp.eq (.bool (decide (F < 0))), Sp.eq (.bool (decide (F < 0))), Sp.eq undef, Sp.eq undef, Sp.eq undef, Sp.eq undef, Sp.eq undef, Sp.eq undef, Sp.eq undef, Sp.eq undef, Sp.eq undef, Sp.eq undef, Sp.eq undef, Sp.eq undef, Sp.eq undef, Sp.eq (.bool true), Sp.eq (.bool true)] hF (fun _ _ _ _ _ h => h) (by kernel_rfl) (by kernel_rfl) ⟨?_, ?_, ?_, ?_, ?_, ?_, ?_, ?_, ?_, ?_, ?_, ?_, ?_, ?_, ?_, ?_, ?_, ?_, ?_, ?_, ?_, ?_, ?_, ?_, ?_, ?_, ?_, ?_, trivial⟩ ?_  -- R6
        · intro ac gs u hbO hgO hO
          refine opFree rfl ?_
          exact relRun (v := .pointer (some ⟨w.heap.size, 2, none⟩)) (w' := u) (by have e2 : ac.tmps[2]?.getD undef = .pointer (some ⟨w.heap.size, 0, none⟩) := (hO.inm 2 rfl (hF.ev 2 _ rfl)); simp [go_sem, e2]) (okP hgO rfl)
        · intro ac gs u hbO hgO hO
          refine opFree rfl ?_
          exact relRun (v := .slice ao ws.length co) (w' := u) (by have c2 : u.cell? ⟨w.heap.size, 2, none⟩ = some (.slice ao ws.length co) := (p2.below hbO).cell 2; have e17 : ac.tmps[17]?.getD undef = .pointer (some ⟨w.heap.size, 2, none⟩) := (show ac.tmps[17]?.getD undef = .pointer (some ⟨w.heap.size, 2, none⟩) from hO.tm 0 17 rfl rfl); simp [go_sem, e17, c2]) (okP hgO rfl)
        · intro ac gs u hbO hgO hO
          refine opFree rfl ?_
          exact relRun (v := .int .i64 (j : Int)) (w' := u) (by exact E.xMv rfl ((hO.inm 8 rfl (hF.ev 8 _ rfl)))) (okP hgO rfl)
        · intro ac gs u hbO hgO hO
          refine opFree rfl ?_
          exact relRun (v := .pointer (some ⟨g, o + j * 2, none⟩)) (w' := u) (by exact E.xIdx (x := .tmp 19) (i := j) (ofs := o) (k := 2) rfl (by have e := (show ac.tmps[18]?.getD undef = .slice ao ws.length co from hO.tm 1 18 rfl rfl); rw [ea] at e; exact e) ((E.ev_of ((show ac.tmps[19]?.getD undef = .int .i64 (j : Int) from hO.tm 2 19 rfl rfl)))) Try.underlying54 (by kernel_rfl) (by omega)) (okP hgO rfl)
        · intro ac gs u hbO hgO hO
          refine opFree rfl ?_
          exact relRun (v := .pointer (some ⟨g, o + j * 2 + 1, none⟩)) (w' := u) (by have e20 : ac.tmps[20]?.getD undef = .pointer (some ⟨g, o + j * 2, none⟩) := (show ac.tmps[20]?.getD undef = .pointer (some ⟨g, o + j * 2, none⟩) from hO.tm 3 20 rfl rfl); simp [go_sem, e20]) (okP hgO rfl)
        · intro ac gs u hbO hgO hO
          refine opFree rfl ?_
          exact relRun (v := .int .i64 (ws[j].2)) (w' := u) (by have c1 : u.cell? ⟨g, o + j * 2 + 1, none⟩ = some (.int .i64 (ws[j].2)) := (QAt.cellsAt (h.below hbO) ea hlt).2; have e21 : ac.tmps[21]?.getD undef = .pointer (some ⟨g, o + j * 2 + 1, none⟩) := (show ac.tmps[21]?.getD undef = .pointer (some ⟨g, o + j * 2 + 1, none⟩) from hO.tm 4 21 rfl rfl); simp [go_sem, e21, c1]) (okP hgO rfl)
        · intro ac gs u hbO hgO hO
          refine opFree rfl ?_
          exact relRun (v := .int .i64 now) (w' := u) (by exact E.xMv rfl ((hO.inm 1 rfl (hF.ev 1 _ rfl)))) (okP hgO rfl)
        · intro ac gs u hbO hgO hO
          refine opFree rfl ?_
          refine relCall (f := 41) (args := #[.int .i64 now]) (by have e23 : ac.tmps[23]?.getD undef = .int .i64 now := (show ac.tmps[23]?.getD undef = .int .i64 now from hO.tm 6 23 rfl rfl); simp [go_sem, e23]) ?_
          refine Calls.mono (rcut_c _ now) ?_
          rintro e u' ⟨rfl, rfl⟩
          exact ⟨_, rfl, okP hgO rfl⟩
        · intro ac gs u hbO hgO hO
          refine opFree rfl ?_
          exact relRun (v := .bool (decide (ws[j].2 ≤ cutT now))) (w' := u) (by have e22 : ac.tmps[22]?.getD undef = .int .i64 (ws[j].2) := (show ac.tmps[22]?.getD undef = .int .i64 (ws[j].2) from hO.tm 5 22 rfl rfl); have e24 : ac.tmps[24]?.getD undef = .int .i64 (cutT now) := (show ac.tmps[24]?.getD undef = .int .i64 (cutT now) from hO.tm 7 24 rfl rfl); simp [go_sem, e22, e24]) (okP hgO rfl)
        · intro ac gs u hbO hgO hO
          refine opFree rfl ?_
          exact relRun (v := .bool (decide (ws[j].2 ≤ cutT now))) (w' := u) (by exact E.xMv rfl ((show ac.tmps[25]?.getD undef = .bool (decide (ws[j].2 ≤ cutT now)) from hO.tm 8 25 rfl rfl))) (okP hgO rfl)
        · intro ac gs u hbO hgO hO
          refine opWant 9 26 rfl rfl ((((show ac.tmps[26]?.getD undef = .bool (decide (ws[j].2 ≤ cutT now)) from hO.tm 9 26 rfl rfl)).trans (congrArg Value.bool hc10))) ?_
          exact relRun (v := .int .i64 F) (w' := u) (by exact E.xMv rfl ((hO.inm 7 rfl (hF.ev 7 _ rfl)))) (okP hgO rfl)
        · intro ac gs u hbO hgO hO
          refine opWant 9 26 rfl rfl ((((show ac.tmps[26]?.getD undef = .bool (decide (ws[j].2 ≤ cutT now)) from hO.tm 9 26 rfl rfl)).trans (congrArg Value.bool hc10))) ?_
          exact relRun (v := .bool (decide (F < 0))) (w' := u) (by have e27 : ac.tmps[27]?.getD undef = .int .i64 F := (show ac.tmps[27]?.getD undef = .int .i64 F from hO.tm 10 27 rfl rfl); simp [go_sem, e27]) (okP hgO rfl)
        · intro ac gs u hbO hgO hO
          refine opWant 9 26 rfl rfl ((((show ac.tmps[26]?.getD undef = .bool (decide (ws[j].2 ≤ cutT now)) from hO.tm 9 26 rfl rfl)).trans (congrArg Value.bool hc10))) ?_
          exact relRun (v := .bool (decide (F < 0))) (w' := u) (by exact E.xMv rfl ((show ac.tmps[28]?.getD undef = .bool (decide (F < 0)) from hO.tm 11 28 rfl rfl))) (okP hgO rfl)
        · intro ac gs u hbO hgO hO
          exact opSkip 12 29 (b := true) rfl rfl ((((show ac.tmps[29]?.getD undef = .bool (decide (F < 0)) from hO.tm 12 29 rfl rfl)).trans (congrArg Value.bool hc11))) rfl rfl
        · intro ac gs u hbO hgO hO
          exact opSkip 12 29 (b := true) rfl rfl ((((show ac.tmps[29]?.getD undef = .bool (decide (F < 0)) from hO.tm 12 29 rfl rfl)).trans (congrArg Value.bool hc11))) rfl rfl
        · intro ac gs u hbO hgO hO
          exact opSkip 12 29 (b := true) rfl rfl ((((show ac.tmps[29]?.getD undef = .bool (decide (F < 0)) from hO.tm 12 29 rfl rfl)).trans (congrArg Value.bool hc11))) rfl rfl
        · intro ac gs u hbO hgO hO
          exact opSkip 12 29 (b := true) rfl rfl ((((show ac.tmps[29]?.getD undef = .bool (decide (F < 0)) from hO.tm 12 29 rfl rfl)).trans (congrArg Value.bool hc11))) rfl rfl
        · intro ac gs u hbO hgO hO
          exact opSkip 12 29 (b := true) rfl rfl ((((show ac.tmps[29]?.getD undef = .bool (decide (F < 0)) from hO.tm 12 29 rfl rfl)).trans (congrArg Value.bool hc11))) rfl rfl
        · intro ac gs u hbO hgO hO
          exact opSkip 12 29 (b := true) rfl rfl ((((show ac.tmps[29]?.getD undef = .bool (decide (F < 0)) from hO.tm 12 29 rfl rfl)).trans (congrArg Value.bool hc11))) rfl rfl
        · intro ac gs u hbO hgO hO
          exact opSkip 12 29 (b := true) rfl rfl ((((show ac.tmps[29]?.getD undef = .bool (decide (F < 0)) from hO.tm 12 29 rfl rfl)).trans (congrArg Value.bool hc11))) rfl rfl
        · intro ac gs u hbO hgO hO
          exact opSkip 12 29 (b := true) rfl rfl ((((show ac.tmps[29]?.getD undef = .bool (decide (F < 0)) from hO.tm 12 29 rfl rfl)).trans (congrArg Value.bool hc11))) rfl rfl
        · intro ac gs u hbO hgO hO
          exact opSkip 12 29 (b := true) rfl rfl ((((show ac.tmps[29]?.getD undef = .bool (decide (F < 0)) from hO.tm 12 29 rfl rfl)).trans (congrArg Value.bool hc11))) rfl rfl
        · intro ac gs u hbO hgO hO
          exact opSkip 12 29 (b := true) rfl rfl ((((show ac.tmps[29]?.getD undef = .bool (decide (F < 0)) from hO.tm 12 29 rfl rfl)).trans (congrArg Value.bool hc11))) rfl rfl
        · intro ac gs u hbO hgO hO
          exact opSkip 12 29 (b := true) rfl rfl ((((show ac.tmps[29]?.getD undef = .bool (decide (F < 0)) from hO.tm 12 29 rfl rfl)).trans (congrArg Value.bool hc11))) rfl rfl
        · intro ac gs u hbO hgO hO
          exact opSkip 12 29 (b := true) rfl rfl ((((show ac.tmps[29]?.getD undef = .bool (decide (F < 0)) from hO.tm 12 29 rfl rfl)).trans (congrArg Value.bool hc11))) rfl rfl
        · intro ac gs u hbO hgO hO
          exact opSkip 12 29 (b := true) rfl rfl ((((show ac.tmps[29]?.getD undef = .bool (decide (F < 0)) from hO.tm 12 29 rfl rfl)).trans (congrArg Value.bool hc11))) rfl rfl
        · intro ac gs u hbO hgO hO
          refine opWant 9 26 rfl rfl ((((show ac.tmps[26]?.getD undef = .bool (decide (ws[j].2 ≤ cutT now)) from hO.tm 9 26 rfl rfl)).trans (congrArg Value.bool hc10))) ?_
          exact relRun (v := .bool true) (w' := u) (by have e29 : ac.tmps[29]?.getD undef = .bool (decide (F < 0)) := (show ac.tmps[29]?.getD undef = .bool (decide (F < 0)) from hO.tm 12 29 rfl rfl); simp [go_sem, e29, hc11]) (okP hgO rfl)
        · intro ac gs u hbO hgO hO
          refine opFree rfl ?_
          exact relRun (v := .bool true) (w' := u) (by have e26 : ac.tmps[26]?.getD undef = .bool (decide (ws[j].2 ≤ cutT now)) := (show ac.tmps[26]?.getD undef = .bool (decide (ws[j].2 ≤ cutT now)) from hO.tm 9 26 rfl rfl); have e43 : ac.tmps[43]?.getD undef = .bool true := (show ac.tmps[43]?.getD undef = .bool true from hO.tm 26 43 rfl rfl); simp [go_sem, e26, e43, hc10]) (okP hgO rfl)
        intro vs gs w12 hb13 hgO hrO
        have r0 : vs 0 = .pointer (some ⟨w.heap.size, 2, none⟩) := hrO 0 (by decide)
        have r1 : vs 1 = .slice ao ws.length co := hrO 1 (by decide)
        have r2 : vs 2 = .int .i64 (j : Int) := hrO 2 (by decide)
        have r3 : vs 3 = .pointer (some ⟨g, o + j * 2, none⟩) := hrO 3 (by decide)
        have r4 : vs 4 = .pointer (some ⟨g, o + j * 2 + 1, none⟩) := hrO 4 (by decide)
        have r5 : vs 5 = .int .i64 (ws[j].2) := hrO 5 (by decide)
        have r6 : vs 6 = .int .i64 now := hrO 6 (by decide)
        have r7 : vs 7 = .int .i64 (cutT now) := hrO 7 (by decide)
        have r8 : vs 8 = .bool (decide (ws[j].2 ≤ cutT now)) := hrO 8 (by decide)
        have r9 : vs 9 = .bool (decide (ws[j].2 ≤ cutT now)) := hrO 9 (by decide)
        have r10 : vs 10 = .int .i64 F := hrO 10 (by decide)
        have r11 : vs 11 = .bool (decide (F < 0)) := hrO 11 (by decide)
        have r12 : vs 12 = .bool (decide (F < 0)) := hrO 12 (by decide)
        have r13 : vs 13 = undef := hrO 13 (by decide)
        have r14 : vs 14 = undef := hrO 14 (by decide)
        have r15 : vs 15 = undef := hrO 15 (by decide)
        have r16 : vs 16 = undef := hrO 16 (by decide)
        have r17 : vs 17 = undef := hrO 17 (by decide)
        have r18 : vs 18 = undef := hrO 18 (by decide)
        have r19 : vs 19 = undef := hrO 19 (by decide)
        have r20 : vs 20 = undef := hrO 20 (by decide)
        have r21 : vs 21 = undef := hrO 21 (by decide)
        have r22 : vs 22 = undef := hrO 22 (by decide)
        have r23 : vs 23 = undef := hrO 23 (by decide)
        have r24 : vs 24 = undef := hrO 24 (by decide)
        have r25 : vs 25 = undef := hrO 25 (by decide)
        have r26 : vs 26 = .bool true := hrO 26 (by decide)
        have r27 : vs 27 = .bool true := hrO 27 (by decide)
        intro a hF'; clear hF hrO; have hF := hF'; clear hF'
        simp only [List.take_succ_cons, List.take_zero, E.putsM, r0, r1, r2, r3, r4, r5, r6, r7, r8, r9, r10, r11, r12, r13, r14, r15, r16, r17, r18, r19, r20, r21, r22, r23, r24, r25, r26, r27] at hF
        clear r0 r1 r2 r3 r4 r5 r6 r7 r8 r9 r10 r11 r12 r13 r14 r15 r16 r17 r18 r19 r20 r21 r22 r23 r24 r25 r26 r27
        replace h := h.below hb13
        replace p2 := p2.below hb13
        replace p4 := p4.below hb13
        replace o6 := K.own_of o6 (fun x hx => hb13.block x (K.own_lt o6 hx))
        replace hC := hC.below hb13
        have z14 : wr2.heap.size ≤ w12.heap.size := hb13.size
        clear hb13 hgO
        simp only [List.drop_succ_cons, List.drop_zero]
        refine wpList_nil ?_
        have hlq : lateQ now ws[j] = true := by unfold lateQ lateT; rw [hcut _ (List.getElem_mem hlt)]; exact hc10
        have hsel' := hsel.take hlt hlq (.inl (of_decide_eq_true hc11))
        replace hF := hF.sub (m' := [(44, .bool true), (8, .int .i64 (j : Int)), (7, .int .i64 F), (6, .slice ra_o6 ((out).length) rc_o6), (4, .pointer (some ⟨w3.heap.size, 0, none⟩)), (2, .pointer (some ⟨w.heap.size, 0, none⟩)), (1, .int .i64 now)]) ⟨rfl, rfl, rfl, rfl, rfl, rfl, rfl, trivial⟩
        refine E.then_norm (hK9 _ _ ?_)
        refine E.condT rfl (hF.at 44 rfl) ?_
        refine wp_region_lit ?_  -- R7
        refine E.val (d := 45) (v := .int .i64 (j : Int)) (w' := w12) rfl rfl rfl hF (by exact E.xMv rfl (hF.at 8 rfl)) ?_
        clear hF a; intro a hF
        refine E.val (d := 7) (v := .int .i64 (j : Int)) (w' := w12) rfl rfl rfl hF (by exact E.xAs rfl (hF.at 45 rfl)) ?_
        clear hF a; intro a hF
        refine wpList_nil ?_
        refine E.in_norm ?_
        refine E.then_norm (hK8 _ _ ?_)
        refine wp_region_lit ?_  -- R5
        refine E.val (d := 15) (v := .int .i64 (j : Int)) (w' := w12) rfl rfl rfl hF (by exact E.xMv rfl (hF.at 8 rfl)) ?_
        clear hF a; intro a hF
        refine E.val (d := 16) (v := .int .i64 ((j : Int) + 1)) (w' := w12) rfl rfl rfl hF (by have hr : IntKind.i64.wrap ((j : Int) + 1) = (j : Int) + 1 := E.wrapI (by omega) (by omega); have e15 : a.tmps[15]?.getD undef = .int .i64 (j : Int) := hF.at 15 rfl; simp [go_sem, e15, hr]) ?_
        clear hF a; intro a hF
        refine E.val (d := 8) (v := .int .i64 ((j : Int) + 1)) (w' := w12) rfl rfl rfl hF (by exact E.xAs rfl (hF.at 16 rfl)) ?_
        clear hF a; intro a hF
        refine wpList_nil ?_
        refine E.then_norm ?_
        exact ⟨_, by omega, j + 1, (j : Int), rfl, hF.sub (by exact ⟨rfl, rfl, rfl, rfl, rfl, rfl, trivial⟩), hC, by omega, h, p2, p4, o6, by omega, hsel'⟩
      ·
        obtain ⟨f, rfl, hfj, hf⟩ := hsel.pos (by have := of_decide_eq_false hc11; omega)
        rcases E.bsplit (decide (ws[j].2 < ws[f].2)) with hc15 | hc15
        ·
          refine E.tab 28 [Sp.eq (.pointer (some ⟨w.heap.size, 2, none⟩)), Sp.eq (.slice ao ws.length co), Sp.eq (.int .i64 (j : Int)), Sp.eq (.pointer (some ⟨g, o + j * 2, none⟩)), Sp.eq (.pointer (some ⟨g, o + j * 2 + 1, none⟩)), Sp.eq (.int .i64 (ws[j].2)), Sp.eq (.int .i64 now), Sp.eq (.int .i64 (cutT now)), Sp.eq (.bool (decide (ws[j].2 ≤ cutT now))), Sp.eq (.bool (decide (ws[j].2 ≤ cutT now))), Sp.eq (.int .i64 (f : Int)), Sp.eq (.bool (decide ((f : Int) < 0))), Sp.eq (.bool (decide ((f : Int) < 0))), Sp.eq (.pointer (some ⟨w.heap.size, 2, none⟩)), Sp.eq (.slice ao ws.length co), Sp.eq (.int .i64 (j : Int)), Sp.eq (.pointer (some ⟨g, o + j * 2, none⟩)), Sp.eq (.pointer (some ⟨g, o + j * 2 + 1, none⟩)), Sp.eq (.int .i64 (ws[j].2)), Sp.eq (.pointer (some ⟨w.heap.size, 2, none⟩)), Sp.eq (.slice ao ws.length co), Sp.eq (.int .i64 (f : Int)), Sp.eq (.pointer (some ⟨g, o + f * 2, none⟩)), Sp.eq (.pointer (some ⟨g, o + f * 2 + 1, none⟩)), Sp.eq (.int .i64 (ws[f].2)), Sp.eq (.bool (decide (ws[j].2 < ws[f].2))), Sp.eq (.bool (decide (ws[j].2 < ws[f].2))), Sp.eq (.bool (decide (ws[j].2 < ws[f].2)))] hF (fun _ _ _ _ _ h => h) (by kernel_rfl) (by kernel_rfl) ⟨?_, ?_, ?_, ?_, ?_, ?_, ?_, ?_, ?_, ?_, ?_, ?_, ?_, ?_, ?_, ?_, ?_, ?_, ?_, ?_, ?_, ?_, ?_, ?_, ?_, ?_, ?_, ?_, trivial⟩ ?_  -- R6
          · intro ac gs u hbO hgO hO
            refine opFree rfl ?_
            exact relRun (v := .pointer (some ⟨w.heap.size, 2, none⟩)) (w' := u) (by have e2 : ac.tmps[2]?.getD undef = .pointer (some ⟨w.heap.size, 0, none⟩) := (hO.inm 2 rfl (hF.ev 2 _ rfl)); simp [go_sem, e2]) (okP hgO rfl)
          · intro ac gs u hbO hgO hO
            refine opFree rfl ?_
            exact relRun (v := .slice ao ws.length co) (w' := u) (by have c2 : u.cell? ⟨w.heap.size, 2, none⟩ = some (.slice ao ws.length co) := (p2.below hbO).cell 2; have e17 : ac.tmps[17]?.getD undef = .pointer (some ⟨w.heap.size, 2, none⟩) := (show ac.tmps[17]?.getD undef = .pointer (some ⟨w.heap.size, 2, none⟩) from hO.tm 0 17 rfl rfl); simp [go_sem, e17, c2]) (okP hgO rfl)
          · intro ac gs u hbO hgO hO
            refine opFree rfl ?_
            exact relRun (v := .int .i64 (j : Int)) (w' := u) (by exact E.xMv rfl ((hO.inm 8 rfl (hF.ev 8 _ rfl)))) (okP hgO rfl)
          · intro ac gs u hbO hgO hO
            refine opFree rfl ?_
            exact relRun (v := .pointer (some ⟨g, o + j * 2, none⟩)) (w' := u) (by exact E.xIdx (x := .tmp 19) (i := j) (ofs := o) (k := 2) rfl (by have e := (show ac.tmps[18]?.getD undef = .slice ao ws.length co from hO.tm 1 18 rfl rfl); rw [ea] at e; exact e) ((E.ev_of ((show ac.tmps[19]?.getD undef = .int .i64 (j : Int) from hO.tm 2 19 rfl rfl)))) Try.underlying54 (by kernel_rfl) (by omega)) (okP hgO rfl)
          · intro ac gs u hbO hgO hO
            refine opFree rfl ?_
            exact relRun (v := .pointer (some ⟨g, o + j * 2 + 1, none⟩)) (w' := u) (by have e20 : ac.tmps[20]?.getD undef = .pointer (some ⟨g, o + j * 2, none⟩) := (show ac.tmps[20]?.getD undef = .pointer (some ⟨g, o + j * 2, none⟩) from hO.tm 3 20 rfl rfl); simp [go_sem, e20]) (okP hgO rfl)
          · intro ac gs u hbO hgO hO
            refine opFree rfl ?_
            exact relRun (v := .int .i64 (ws[j].2)) (w' := u) (by have c1 : u.cell? ⟨g, o + j * 2 + 1, none⟩ = some (.int .i64 (ws[j].2)) := (QAt.cellsAt (h.below hbO) ea hlt).2; have e21 : ac.tmps[21]?.getD undef = .pointer (some ⟨g, o + j * 2 + 1, none⟩) := (show ac.tmps[21]?.getD undef = .pointer (some ⟨g, o + j * 2 + 1, none⟩) from hO.tm 4 21 rfl rfl); simp [go_sem, e21, c1]) (okP hgO rfl)
          · intro ac gs u hbO hgO hO
            refine opFree rfl ?_
            exact relRun (v := .int .i64 now) (w' := u) (by exact E.xMv rfl ((hO.inm 1 rfl (hF.ev 1 _ rfl)))) (okP hgO rfl)
          · intro ac gs u hbO hgO hO
            refine opFree rfl ?_
            refine relCall (f := 41) (args := #[.int .i64 now]) (by have e23 : ac.tmps[23]?.getD undef = .int .i64 now := (show ac.tmps[23]?.getD undef = .int .i64 now from hO.tm 6 23 rfl rfl); simp [go_sem, e23]) ?_
            refine Calls.mono (rcut_c _ now) ?_
            rintro e u' ⟨rfl, rfl⟩
            exact ⟨_, rfl, okP hgO rfl⟩
          · intro ac gs u hbO hgO hO
            refine opFree rfl ?_
            exact relRun (v := .bool (decide (ws[j].2 ≤ cutT now))) (w' := u) (by have e22 : ac.tmps[22]?.getD undef = .int .i64 (ws[j].2) := (show ac.tmps[22]?.getD undef = .int .i64 (ws[j].2) from hO.tm 5 22 rfl rfl); have e24 : ac.tmps[24]?.getD undef = .int .i64 (cutT now) := (show ac.tmps[24]?.getD undef = .int .i64 (cutT now) from hO.tm 7 24 rfl rfl); simp [go_sem, e22, e24]) (okP hgO rfl)
          · intro ac gs u hbO hgO hO
            refine opFree rfl ?_
            exact relRun (v := .bool (decide (ws[j].2 ≤ cutT now))) (w' := u) (by exact E.xMv rfl ((show ac.tmps[25]?.getD undef = .bool (decide (ws[j].2 ≤ cutT now)) from hO.tm 8 25 rfl rfl))) (okP hgO rfl)
          · intro ac gs u hbO hgO hO
            refine opWant 9 26 rfl rfl ((((show ac.tmps[26]?.getD undef = .bool (decide (ws[j].2 ≤ cutT now)) from hO.tm 9 26 rfl rfl)).trans (congrArg Value.bool hc10))) ?_
            exact relRun (v := .int .i64 (f : Int)) (w' := u) (by exact E.xMv rfl ((hO.inm 7 rfl (hF.ev 7 _ rfl)))) (okP hgO rfl)
          · intro ac gs u hbO hgO hO
            refine opWant 9 26 rfl rfl ((((show ac.tmps[26]?.getD undef = .bool (decide (ws[j].2 ≤ cutT now)) from hO.tm 9 26 rfl rfl)).trans (congrArg Value.bool hc10))) ?_
            exact relRun (v := .bool (decide ((f : Int) < 0))) (w' := u) (by have e27 : ac.tmps[27]?.getD undef = .int .i64 (f : Int) := (show ac.tmps[27]?.getD undef = .int .i64 (f : Int) from hO.tm 10 27 rfl rfl); simp [go_sem, e27]) (okP hgO rfl)
          · intro ac gs u hbO hgO hO
            refine opWant 9 26 rfl rfl ((((show ac.tmps[26]?.getD undef = .bool (decide (ws[j].2 ≤ cutT now)) from hO.tm 9 26 rfl rfl)).trans (congrArg Value.bool hc10))) ?_
            exact relRun (v := .bool (decide ((f : Int) < 0))) (w' := u) (by exact E.xMv rfl ((show ac.tmps[28]?.getD undef = .bool (decide ((f : Int) < 0)) from hO.tm 11 28 rfl rfl))) (okP hgO rfl)
          · intro ac gs u hbO hgO hO
            refine opWant 12 29 rfl rfl ((((show ac.tmps[29]?.getD undef = .bool (decide ((f : Int) < 0)) from hO.tm 12 29 rfl rfl)).trans (congrArg Value.bool hc11))) ?_
            exact relRun (v := .pointer (some ⟨w.heap.size, 2, none⟩)) (w' := u) (by have e2 : ac.tmps[2]?.getD undef = .pointer (some ⟨w.heap.size, 0, none⟩) := (hO.inm 2 rfl (hF.ev 2 _ rfl)); simp [go_sem, e2]) (okP hgO rfl)
          · intro ac gs u hbO hgO hO
            refine opWant 12 29 rfl rfl ((((show ac.tmps[29]?.getD undef = .bool (decide ((f : Int) < 0)) from hO.tm 12 29 rfl rfl)).trans (congrArg Value.bool hc11))) ?_
            exact relRun (v := .slice ao ws.length co) (w' := u) (by have c2 : u.cell? ⟨w.heap.size, 2, none⟩ = some (.slice ao ws.length co) := (p2.below hbO).cell 2; have e30 : ac.tmps[30]?.getD undef = .pointer (some ⟨w.heap.size, 2, none⟩) := (show ac.tmps[30]?.getD undef = .pointer (some ⟨w.heap.size, 2, none⟩) from hO.tm 13 30 rfl rfl); simp [go_sem, e30, c2]) (okP hgO rfl)
          · intro ac gs u hbO hgO hO
            refine opWant 12 29 rfl rfl ((((show ac.tmps[29]?.getD undef = .bool (decide ((f : Int) < 0)) from hO.tm 12 29 rfl rfl)).trans (congrArg Value.bool hc11))) ?_
            exact relRun (v := .int .i64 (j : Int)) (w' := u) (by exact E.xMv rfl ((hO.inm 8 rfl (hF.ev 8 _ rfl)))) (okP hgO rfl)
          · intro ac gs u hbO hgO hO
            refine opWant 12 29 rfl rfl ((((show ac.tmps[29]?.getD undef = .bool (decide ((f : Int) < 0)) from hO.tm 12 29 rfl rfl)).trans (congrArg Value.bool hc11))) ?_
            exact relRun (v := .pointer (some ⟨g, o + j * 2, none⟩)) (w' := u) (by exact E.xIdx (x := .tmp 32) (i := j) (ofs := o) (k := 2) rfl (by have e := (show ac.tmps[31]?.getD undef = .slice ao ws.length co from hO.tm 14 31 rfl rfl); rw [ea] at e; exact e) ((E.ev_of ((show ac.tmps[32]?.getD undef = .int .i64 (j : Int) from hO.tm 15 32 rfl rfl)))) Try.underlying54 (by kernel_rfl) (by omega)) (okP hgO rfl)
          · intro ac gs u hbO hgO hO
            refine opWant 12 29 rfl rfl ((((show ac.tmps[29]?.getD undef = .bool (decide ((f : Int) < 0)) from hO.tm 12 29 rfl rfl)).trans (congrArg Value.bool hc11))) ?_
            exact relRun (v := .pointer (some ⟨g, o + j * 2 + 1, none⟩)) (w' := u) (by have e33 : ac.tmps[33]?.getD undef = .pointer (some ⟨g, o + j * 2, none⟩) := (show ac.tmps[33]?.getD undef = .pointer (some ⟨g, o + j * 2, none⟩) from hO.tm 16 33 rfl rfl); simp [go_sem, e33]) (okP hgO rfl)
          · intro ac gs u hbO hgO hO
            refine opWant 12 29 rfl rfl ((((show ac.tmps[29]?.getD undef = .bool (decide ((f : Int) < 0)) from hO.tm 12 29 rfl rfl)).trans (congrArg Value.bool hc11))) ?_
            exact relRun (v := .int .i64 (ws[j].2)) (w' := u) (by have c1 : u.cell? ⟨g, o + j * 2 + 1, none⟩ = some (.int .i64 (ws[j].2)) := (QAt.cellsAt (h.below hbO) ea hlt).2; have e34 : ac.tmps[34]?.getD undef = .pointer (some ⟨g, o + j * 2 + 1, none⟩) := (show ac.tmps[34]?.getD undef = .pointer (some ⟨g, o + j * 2 + 1, none⟩) from hO.tm 17 34 rfl rfl); simp [go_sem, e34, c1]) (okP hgO rfl)
          · intro ac gs u hbO hgO hO
            refine opWant 12 29 rfl rfl ((((show ac.tmps[29]?.getD undef = .bool (decide ((f : Int) < 0)) from hO.tm 12 29 rfl rfl)).trans (congrArg Value.bool hc11))) ?_
            exact relRun (v := .pointer (some ⟨w.heap.size, 2, none⟩)) (w' := u) (by have e2 : ac.tmps[2]?.getD undef = .pointer (some ⟨w.heap.size, 0, none⟩) := (hO.inm 2 rfl (hF.ev 2 _ rfl)); simp [go_sem, e2]) (okP hgO rfl)
          · intro ac gs u hbO hgO hO
            refine opWant 12 29 rfl rfl ((((show ac.tmps[29]?.getD undef = .bool (decide ((f : Int) < 0)) from hO.tm 12 29 rfl rfl)).trans (congrArg Value.bool hc11))) ?_
            exact relRun (v := .slice ao ws.length co) (w' := u) (by have c2 : u.cell? ⟨w.heap.size, 2, none⟩ = some (.slice ao ws.length co) := (p2.below hbO).cell 2; have e36 : ac.tmps[36]?.getD undef = .pointer (some ⟨w.heap.size, 2, none⟩) := (show ac.tmps[36]?.getD undef = .pointer (some ⟨w.heap.size, 2, none⟩) from hO.tm 19 36 rfl rfl); simp [go_sem, e36, c2]) (okP hgO rfl)
          · intro ac gs u hbO hgO hO
            refine opWant 12 29 rfl rfl ((((show ac.tmps[29]?.getD undef = .bool (decide ((f : Int) < 0)) from hO.tm 12 29 rfl rfl)).trans (congrArg Value.bool hc11))) ?_
            exact relRun (v := .int .i64 (f : Int)) (w' := u) (by exact E.xMv rfl ((hO.inm 7 rfl (hF.ev 7 _ rfl)))) (okP hgO rfl)
          · intro ac gs u hbO hgO hO
            refine opWant 12 29 rfl rfl ((((show ac.tmps[29]?.getD undef = .bool (decide ((f : Int) < 0)) from hO.tm 12 29 rfl rfl)).trans (congrArg Value.bool hc11))) ?_
            exact relRun (v := .pointer (some ⟨g, o + f * 2, none⟩)) (w' := u) (by exact E.xIdx (x := .tmp 38) (i := f) (ofs := o) (k := 2) rfl (by have e := (show ac.tmps[37]?.getD undef = .slice ao ws.length co from hO.tm 20 37 rfl rfl); rw [ea] at e; exact e) ((E.ev_of ((show ac.tmps[38]?.getD undef = .int .i64 (f : Int) from hO.tm 21 38 rfl rfl)))) Try.underlying54 (by kernel_rfl) (by omega)) (okP hgO rfl)
          · intro ac gs u hbO hgO hO
            refine opWant 12 29 rfl rfl ((((show ac.tmps[29]?.getD undef = .bool (decide ((f : Int) < 0)) from hO.tm 12 29 rfl rfl)).trans (congrArg Value.bool hc11))) ?_
            exact relRun (v := .pointer (some ⟨g, o + f * 2 + 1, none⟩)) (w' := u) (by have e39 : ac.tmps[39]?.getD undef = .pointer (some ⟨g, o + f * 2, none⟩) := (show ac.tmps[39]?.getD undef = .pointer (some ⟨g, o + f * 2, none⟩) from hO.tm 22 39 rfl rfl); simp [go_sem, e39]) (okP hgO rfl)
          · intro ac gs u hbO hgO hO
            refine opWant 12 29 rfl rfl ((((show ac.tmps[29]?.getD undef = .bool (decide ((f : Int) < 0)) from hO.tm 12 29 rfl rfl)).trans (congrArg Value.bool hc11))) ?_
            exact relRun (v := .int .i64 (ws[f].2)) (w' := u) (by have c1 : u.cell? ⟨g, o + f * 2 + 1, none⟩ = some (.int .i64 (ws[f].2)) := (QAt.cellsAt (h.below hbO) ea hf).2; have e40 : ac.tmps[40]?.getD undef = .pointer (some ⟨g, o + f * 2 + 1, none⟩) := (show ac.tmps[40]?.getD undef = .pointer (some ⟨g, o + f * 2 + 1, none⟩) from hO.tm 23 40 rfl rfl); simp [go_sem, e40, c1]) (okP hgO rfl)
          · intro ac gs u hbO hgO hO
            refine opWant 12 29 rfl rfl ((((show ac.tmps[29]?.getD undef = .bool (decide ((f : Int) < 0)) from hO.tm 12 29 rfl rfl)).trans (congrArg Value.bool hc11))) ?_
            exact relRun (v := .bool (decide (ws[j].2 < ws[f].2))) (w' := u) (by have e35 : ac.tmps[35]?.getD undef = .int .i64 (ws[j].2) := (show ac.tmps[35]?.getD undef = .int .i64 (ws[j].2) from hO.tm 18 35 rfl rfl); have e41 : ac.tmps[41]?.getD undef = .int .i64 (ws[f].2) := (show ac.tmps[41]?.getD undef = .int .i64 (ws[f].2) from hO.tm 24 41 rfl rfl); simp [go_sem, e35, e41]) (okP hgO rfl)
          · intro ac gs u hbO hgO hO
            refine opWant 9 26 rfl rfl ((((show ac.tmps[26]?.getD undef = .bool (decide (ws[j].2 ≤ cutT now)) from hO.tm 9 26 rfl rfl)).trans (congrArg Value.bool hc10))) ?_
            exact relRun (v := .bool (decide (ws[j].2 < ws[f].2))) (w' := u) (by have e29 : ac.tmps[29]?.getD undef = .bool (decide ((f : Int) < 0)) := (show ac.tmps[29]?.getD undef = .bool (decide ((f : Int) < 0)) from hO.tm 12 29 rfl rfl); have e42 : ac.tmps[42]?.getD undef = .bool (decide (ws[j].2 < ws[f].2)) := (show ac.tmps[42]?.getD undef = .bool (decide (ws[j].2 < ws[f].2)) from hO.tm 25 42 rfl rfl); simp [go_sem, e29, e42, hc11]) (okP hgO rfl)
          · intro ac gs u hbO hgO hO
            refine opFree rfl ?_
            exact relRun (v := .bool (decide (ws[j].2 < ws[f].2))) (w' := u) (by have e26 : ac.tmps[26]?.getD undef = .bool (decide (ws[j].2 ≤ cutT now)) := (show ac.tmps[26]?.getD undef = .bool (decide (ws[j].2 ≤ cutT now)) from hO.tm 9 26 rfl rfl); have e43 : ac.tmps[43]?.getD undef = .bool (decide (ws[j].2 < ws[f].2)) := (show ac.tmps[43]?.getD undef = .bool (decide (ws[j].2 < ws[f].2)) from hO.tm 26 43 rfl rfl); simp [go_sem, e26, e43, hc10]) (okP hgO rfl)
          intro vs gs w16 hb17 hgO hrO
          have r0 : vs 0 = .pointer (some ⟨w.heap.size, 2, none⟩) := hrO 0 (by decide)
          have r1 : vs 1 = .slice ao ws.length co := hrO 1 (by decide)
          have r2 : vs 2 = .int .i64 (j : Int) := hrO 2 (by decide)
          have r3 : vs 3 = .pointer (some ⟨g, o + j * 2, none⟩) := hrO 3 (by decide)
          have r4 : vs 4 = .pointer (some ⟨g, o + j * 2 + 1, none⟩) := hrO 4 (by decide)
          have r5 : vs 5 = .int .i64 (ws[j].2) := hrO 5 (by decide)
          have r6 : vs 6 = .int .i64 now := hrO 6 (by decide)
          have r7 : vs 7 = .int .i64 (cutT now) := hrO 7 (by decide)
          have r8 : vs 8 = .bool (decide (ws[j].2 ≤ cutT now)) := hrO 8 (by decide)
          have r9 : vs 9 = .bool (decide (ws[j].2 ≤ cutT now)) := hrO 9 (by decide)
          have r10 : vs 10 = .int .i64 (f : Int) := hrO 10 (by decide)
          have r11 : vs 11 = .bool (decide ((f : Int) < 0)) := hrO 11 (by decide)
          have r12 : vs 12 = .bool (decide ((f : Int) < 0)) := hrO 12 (by decide)
          have r13 : vs 13 = .pointer (some ⟨w.heap.size, 2, none⟩) := hrO 13 (by decide)
          have r14 : vs 14 = .slice ao ws.length co := hrO 14 (by decide)
          have r15 : vs 15 = .int .i64 (j : Int) := hrO 15 (by decide)
          have r16 : vs 16 = .pointer (some ⟨g, o + j * 2, none⟩) := hrO 16 (by decide)
          have r17 : vs 17 = .pointer (some ⟨g, o + j * 2 + 1, none⟩) := hrO 17 (by decide)
          have r18 : vs 18 = .int .i64 (ws[j].2) := hrO 18 (by decide)
          have r19 : vs 19 = .pointer (some ⟨w.heap.size, 2, none⟩) := hrO 19 (by decide)
          have r20 : vs 20 = .slice ao ws.length co := hrO 20 (by decide)
          have r21 : vs 21 = .int .i64 (f : Int) := hrO 21 (by decide)
          have r22 : vs 22 = .pointer (some ⟨g, o + f * 2, none⟩) := hrO 22 (by decide)
          have r23 : vs 23 = .pointer (some ⟨g, o + f * 2 + 1, none⟩) := hrO 23 (by decide)
          have r24 : vs 24 = .int .i64 (ws[f].2) := hrO 24 (by decide)
          have r25 : vs 25 = .bool (decide (ws[j].2 < ws[f].2)) := hrO 25 (by decide)
          have r26 : vs 26 = .bool (decide (ws[j].2 < ws[f].2)) := hrO 26 (by decide)
          have r27 : vs 27 = .bool (decide (ws[j].2 < ws[f].2)) := hrO 27 (by decide)
          intro a hF'; clear hF hrO; have hF := hF'; clear hF'
          simp only [List.take_succ_cons, List.take_zero, E.putsM, r0, r1, r2, r3, r4, r5, r6, r7, r8, r9, r10, r11, r12, r13, r14, r15, r16, r17, r18, r19, r20, r21, r22, r23, r24, r25, r26, r27] at hF
          clear r0 r1 r2 r3 r4 r5 r6 r7 r8 r9 r10 r11 r12 r13 r14 r15 r16 r17 r18 r19 r20 r21 r22 r23 r24 r25 r26 r27
          replace h := h.below hb17
          replace p2 := p2.below hb17
          replace p4 := p4.below hb17
          replace o6 := K.own_of o6 (fun x hx => hb17.block x (K.own_lt o6 hx))
          replace hC := hC.below hb17
          have z18 : wr2.heap.size ≤ w16.heap.size := hb17.size
          clear hb17 hgO
          simp only [List.drop_succ_cons, List.drop_zero]
          refine wpList_nil ?_
          have hlq : lateQ now ws[j] = true := by unfold lateQ lateT; rw [hcut _ (List.getElem_mem hlt)]; exact hc10
          have hsel' := hsel.take hlt hlq (.inr ⟨f, rfl, hf, of_decide_eq_true hc15⟩)
          replace hF := hF.sub (m' := [(44, .bool (decide (ws[j].2 < ws[f].2))), (8, .int .i64 (j : Int)), (7, .int .i64 (f : Int)), (6, .slice ra_o6 ((out).length) rc_o6), (4, .pointer (some ⟨w3.heap.size, 0, none⟩)), (2, .pointer (some ⟨w.heap.size, 0, none⟩)), (1, .int .i64 now)]) ⟨rfl, rfl, rfl, rfl, rfl, rfl, rfl, trivial⟩
          refine E.then_norm (hK9 _ _ ?_)
          refine E.condT rfl (((hF.at 44 rfl).trans (congrArg Value.bool hc15))) ?_
          refine wp_region_lit ?_  -- R7
          refine E.val (d := 45) (v := .int .i64 (j : Int)) (w' := w16) rfl rfl rfl hF (by exact E.xMv rfl (hF.at 8 rfl)) ?_
          clear hF a; intro a hF
          refine E.val (d := 7) (v := .int .i64 (j : Int)) (w' := w16) rfl rfl rfl hF (by exact E.xAs rfl (hF.at 45 rfl)) ?_
          clear hF a; intro a hF
          refine wpList_nil ?_
          refine E.in_norm ?_
          refine E.then_norm (hK8 _ _ ?_)
          refine wp_region_lit ?_  -- R5
          refine E.val (d := 15) (v := .int .i64 (j : Int)) (w' := w16) rfl rfl rfl hF (by exact E.xMv rfl (hF.at 8 rfl)) ?_
          clear hF a; intro a hF
          refine E.val (d := 16) (v := .int .i64 ((j : Int) + 1)) (w' := w16) rfl rfl rfl hF (by have hr : IntKind.i64.wrap ((j : Int) + 1) = (j : Int) + 1 := E.wrapI (by omega) (by omega); have e15 : a.tmps[15]?.getD undef = .int .i64 (j : Int) := hF.at 15 rfl; simp [go_sem, e15, hr]) ?_
          clear hF a; intro a hF
          refine E.val (d := 8) (v := .int .i64 ((j : Int) + 1)) (w' := w16) rfl rfl rfl hF (by exact E.xAs rfl (hF.at 16 rfl)) ?_
          clear hF a; intro a hF
          refine wpList_nil ?_
          refine E.then_norm ?_
          exact ⟨_, by omega, j + 1, (j : Int), rfl, hF.sub (by exact ⟨rfl, rfl, rfl, rfl, rfl, rfl, trivial⟩), hC, by omega, h, p2, p4, o6, by omega, hsel'⟩
        ·
          refine E.tab 28 [Sp.eq (.pointer (some ⟨w.heap.size, 2, none⟩)), Sp.eq (.slice ao ws.length co), Sp.eq (.int .i64 (j : Int)), Sp.eq (.pointer (some ⟨g, o + j * 2, none⟩)), Sp.eq (.pointer (some ⟨g, o + j * 2 + 1, none⟩)), Sp.eq (.int .i64 (ws[j].2)), Sp.eq (.int .i64 now), Sp.eq (.int .i64 (cutT now)), Sp.eq (.bool (decide (ws[j].2 ≤ cutT now))), Sp.eq (.bool (decide (ws[j].2 ≤ cutT now))), Sp.eq (.int .i64 (f : Int)), Sp.eq (.bool (decide ((f : Int) < 0))), Sp.eq (.bool (decide ((f : Int) < 0))), Sp.eq (.pointer (some ⟨w.heap.size, 2, none⟩)), Sp.eq (.slice ao ws.length co), Sp.eq (.int .i64 (j : Int)), Sp.eq (.pointer (some ⟨g, o + j * 2, none⟩)), Sp.eq (.pointer (some ⟨g, o + j * 2 + 1, none⟩)), Sp.eq (.int .i64 (ws[j].2)), Sp.eq (.pointer (some ⟨w.heap.size, 2, none⟩)), Sp.eq (.slice ao ws.length co), Sp.eq (.int .i64 (f : Int)), Sp.eq (.pointer (some ⟨g, o + f * 2, none⟩)), Sp.eq (.pointer (some ⟨g, o + f * 2 + 1, none⟩)), Sp.eq (.int .i64 (ws[f].2)), Sp.eq (.bool (decide (ws[j].2 < ws[f].2))), Sp.eq (.bool (decide (ws[j].2 < ws[f].2))), Sp.eq (.bool (decide (ws[j].2 < ws[f].2)))] hF (fun _ _ _ _ _ h => h) (by kernel_rfl) (by kernel_rfl) ⟨?_, ?_, ?_, ?_, ?_, ?_, ?_, ?_, ?_, ?_, ?_, ?_, ?_, ?_, ?_, ?_, ?_, ?_, ?_, ?_, ?_, ?_, ?_, ?_, ?_, ?_, ?_, ?_, trivial⟩ ?_  -- R6
          · intro ac gs u hbO hgO hO
            refine opFree rfl ?_
            exact relRun (v := .pointer (some ⟨w.heap.size, 2, none⟩)) (w' := u) (by have e2 : ac.tmps[2]?.getD undef = .pointer (some ⟨w.heap.size, 0, none⟩) := (hO.inm 2 rfl (hF.ev 2 _ rfl)); simp [go_sem, e2]) (okP hgO rfl)
          · intro ac gs u hbO hgO hO
            refine opFree rfl ?_
            exact relRun (v := .slice ao ws.length co) (w' := u) (by have c2 : u.cell? ⟨w.heap.size, 2, none⟩ = some (.slice ao ws.length co) := (p2.below hbO).cell 2; have e17 : ac.tmps[17]?.getD undef = .pointer (some ⟨w.heap.size, 2, none⟩) := (show ac.tmps[17]?.getD undef = .pointer (some ⟨w.heap.size, 2, none⟩) from hO.tm 0 17 rfl rfl); simp [go_sem, e17, c2]) (okP hgO rfl)
          · intro ac gs u hbO hgO hO
            refine opFree rfl ?_
            exact relRun (v := .int .i64 (j : Int)) (w' := u) (by exact E.xMv rfl ((hO.inm 8 rfl (hF.ev 8 _ rfl)))) (okP hgO rfl)
          · intro ac gs u hbO hgO hO
            refine opFree rfl ?_
            exact relRun (v := .pointer (some ⟨g, o + j * 2, none⟩)) (w' := u) (by exact E.xIdx (x := .tmp 19) (i := j) (ofs := o) (k := 2) rfl (by have e := (show ac.tmps[18]?.getD undef = .slice ao ws.length co from hO.tm 1 18 rfl rfl); rw [ea] at e; exact e) ((E.ev_of ((show ac.tmps[19]?.getD undef = .int .i64 (j : Int) from hO.tm 2 19 rfl rfl)))) Try.underlying54 (by kernel_rfl) (by omega)) (okP hgO rfl)
          · intro ac gs u hbO hgO hO
            refine opFree rfl ?_
            exact relRun (v := .pointer (some ⟨g, o + j * 2 + 1, none⟩)) (w' := u) (by have e20 : ac.tmps[20]?.getD undef = .pointer (some ⟨g, o + j * 2, none⟩) := (show ac.tmps[20]?.getD undef = .pointer (some ⟨g, o + j * 2, none⟩) from hO.tm 3 20 rfl rfl); simp [go_sem, e20]) (okP hgO rfl)
          · intro ac gs u hbO hgO hO
            refine opFree rfl ?_
            exact relRun (v := .int .i64 (ws[j].2)) (w' := u) (by have c1 : u.cell? ⟨g, o + j * 2 + 1, none⟩ = some (.int .i64 (ws[j].2)) := (QAt.cellsAt (h.below hbO) ea hlt).2; have e21 : ac.tmps[21]?.getD undef = .pointer (some ⟨g, o + j * 2 + 1, none⟩) := (show ac.tmps[21]?.getD undef = .pointer (some ⟨g, o + j * 2 + 1, none⟩) from hO.tm 4 21 rfl rfl); simp [go_sem, e21, c1]) (okP hgO rfl)
          · intro ac gs u hbO hgO hO
            refine opFree rfl ?_
            exact relRun (v := .int .i64 now) (w' := u) (by exact E.xMv rfl ((hO.inm 1 rfl (hF.ev 1 _ rfl)))) (okP hgO rfl)
          · intro ac gs u hbO hgO hO
            refine opFree rfl ?_
            refine relCall (f := 41) (args := #[.int .i64 now]) (by have e23 : ac.tmps[23]?.getD undef = .int .i64 now := (show ac.tmps[23]?.getD undef = .int .i64 now from hO.tm 6 23 rfl rfl); simp [go_sem, e23]) ?_
            refine Calls.mono (rcut_c _ now) ?_
            rintro e u' ⟨rfl, rfl⟩
            exact ⟨_, rfl, okP hgO rfl⟩
          · intro ac gs u hbO hgO hO
            refine opFree rfl ?_
            exact relRun (v := .bool (decide (ws[j].2 ≤ cutT now))) (w' := u) (by have e22 : ac.tmps[22]?.getD undef = .int .i64 (ws[j].2) := (show ac.tmps[22]?.getD undef = .int .i64 (ws[j].2) from hO.tm 5 22 rfl rfl); have e24 : ac.tmps[24]?.getD undef = .int .i64 (cutT now) := (show ac.tmps[24]?.getD undef = .int .i64 (cutT now) from hO.tm 7 24 rfl rfl); simp [go_sem, e22, e24]) (okP hgO rfl)
          · intro ac gs u hbO hgO hO
            refine opFree rfl ?_
            exact relRun (v := .bool (decide (ws[j].2 ≤ cutT now))) (w' := u) (by exact E.xMv rfl ((show ac.tmps[25]?.getD undef = .bool (decide (ws[j].2 ≤ cutT now)) from hO.tm 8 25 rfl rfl))) (okP hgO rfl)
          · intro ac gs u hbO hgO hO
            refine opWant 9 26 rfl rfl ((((show ac.tmps[26]?.getD undef = .bool (decide (ws[j].2 ≤ cutT now)) from hO.tm 9 26 rfl rfl)).trans (congrArg Value.bool hc10))) ?_
            exact relRun (v := .int .i64 (f : Int)) (w' := u) (by exact E.xMv rfl ((hO.inm 7 rfl (hF.ev 7 _ rfl)))) (okP hgO rfl)
          · intro ac gs u hbO hgO hO
            refine opWant 9 26 rfl rfl ((((show ac.tmps[26]?.getD undef = .bool (decide (ws[j].2 ≤ cutT now)) from hO.tm 9 26 rfl rfl)).trans (congrArg Value.bool hc10))) ?_
            exact relRun (v := .bool (decide ((f : Int) < 0))) (w' := u) (by have e27 : ac.tmps[27]?.getD undef = .int .i64 (f : Int) := (show ac.tmps[27]?.getD undef = .int .i64 (f : Int) from hO.tm 10 27 rfl rfl); simp [go_sem, e27]) (okP hgO rfl)
          · intro ac gs u hbO hgO hO
            refine opWant 9 26 rfl rfl ((((show ac.tmps[26]?.getD undef = .bool (decide (ws[j].2 ≤ cutT now)) from hO.tm 9 26 rfl rfl)).trans (congrArg Value.bool hc10))) ?_
            exact relRun (v := .bool (decide ((f : Int) < 0))) (w' := u) (by exact E.xMv rfl ((show ac.tmps[28]?.getD undef = .bool (decide ((f : Int) < 0)) from hO.tm 11 28 rfl rfl))) (okP hgO rfl)
          · intro ac gs u hbO hgO hO
            refine opWant 12 29 rfl rfl ((((show ac.tmps[29]?.getD undef = .bool (decide ((f : Int) < 0)) from hO.tm 12 29 rfl rfl)).trans (congrArg Value.bool hc11))) ?_
            exact relRun (v := .pointer (some ⟨w.heap.size, 2, none⟩)) (w' := u) (by have e2 : ac.tmps[2]?.getD undef = .pointer (some ⟨w.heap.size, 0, none⟩) := (hO.inm 2 rfl (hF.ev 2 _ rfl)); simp [go_sem, e2]) (okP hgO rfl)
          · intro ac gs u hbO hgO hO
            refine opWant 12 29 rfl rfl ((((show ac.tmps[29]?.getD undef = .bool (decide ((f : Int) < 0)) from hO.tm 12 29 rfl rfl)).trans (congrArg Value.bool hc11))) ?_
            exact relRun (v := .slice ao ws.length co) (w' := u) (by have c2 : u.cell? ⟨w.heap.size, 2, none⟩ = some (.slice ao ws.length co) := (p2.below hbO).cell 2; have e30 : ac.tmps[30]?.getD undef = .pointer (some ⟨w.heap.size, 2, none⟩) := (show ac.tmps[30]?.getD undef = .pointer (some ⟨w.heap.size, 2, none⟩) from hO.tm 13 30 rfl rfl); simp [go_sem, e30, c2]) (okP hgO rfl)
          · intro ac gs u hbO hgO hO
            refine opWant 12 29 rfl rfl ((((show ac.tmps[29]?.getD undef = .bool (decide ((f : Int) < 0)) from hO.tm 12 29 rfl rfl)).trans (congrArg Value.bool hc11))) ?_
            exact relRun (v := .int .i64 (j : Int)) (w' := u) (by exact E.xMv rfl ((hO.inm 8 rfl (hF.ev 8 _ rfl)))) (okP hgO rfl)
          · intro ac gs u hbO hgO hO
            refine opWant 12 29 rfl rfl ((((show ac.tmps[29]?.getD undef = .bool (decide ((f : Int) < 0)) from hO.tm 12 29 rfl rfl)).trans (congrArg Value.bool hc11))) ?_
            exact relRun (v := .pointer (some ⟨g, o + j * 2, none⟩)) (w' := u) (by exact E.xIdx (x := .tmp 32) (i := j) (ofs := o) (k := 2) rfl (by have e := (show ac.tmps[31]?.getD undef = .slice ao ws.length co from hO.tm 14 31 rfl rfl); rw [ea] at e; exact e) ((E.ev_of ((show ac.tmps[32]?.getD undef = .int .i64 (j : Int) from hO.tm 15 32 rfl rfl)))) Try.underlying54 (by kernel_rfl) (by omega)) (okP hgO rfl)
          · intro ac gs u hbO hgO hO
            refine opWant 12 29 rfl rfl ((((show ac.tmps[29]?.getD undef = .bool (decide ((f : Int) < 0)) from hO.tm 12 29 rfl rfl)).trans (congrArg Value.bool hc11))) ?_
            exact relRun (v := .pointer (some ⟨g, o + j * 2 + 1, none⟩)) (w' := u) (by have e33 : ac.tmps[33]?.getD undef = .pointer (some ⟨g, o + j * 2, none⟩) := (show ac.tmps[33]?.getD undef = .pointer (some ⟨g, o + j * 2, none⟩) from hO.tm 16 33 rfl rfl); simp [go_sem, e33]) (okP hgO rfl)
          · intro ac gs u hbO hgO hO
            refine opWant 12 29 rfl rfl ((((show ac.tmps[29]?.getD undef = .bool (decide ((f : Int) < 0)) from hO.tm 12 29 rfl rfl)).trans (congrArg Value.bool hc11))) ?_
            exact relRun (v := .int .i64 (ws[j].2)) (w' := u) (by have c1 : u.cell? ⟨g, o + j * 2 + 1, none⟩ = some (.int .i64 (ws[j].2)) := (QAt.cellsAt (h.below hbO) ea hlt).2; have e34 : ac.tmps[34]?.getD undef = .pointer (some ⟨g, o + j * 2 + 1, none⟩) := (show ac.tmps[34]?.getD undef = .pointer (some ⟨g, o + j * 2 + 1, none⟩) from hO.tm 17 34 rfl rfl); simp [go_sem, e34, c1]) (okP hgO rfl)
          · intro ac gs u hbO hgO hO
            refine opWant 12 29 rfl rfl ((((show ac.tmps[29]?.getD undef = .bool (decide ((f : Int) < 0)) from hO.tm 12 29 rfl rfl)).trans (congrArg Value.bool hc11))) ?_
            exact relRun (v := .pointer (some ⟨w.heap.size, 2, none⟩)) (w' := u) (by have e2 : ac.tmps[2]?.getD undef = .pointer (some ⟨w.heap.size, 0, none⟩) := (hO.inm 2 rfl (hF.ev 2 _ rfl)); simp [go_sem, e2]) (okP hgO rfl)
          · intro ac gs u hbO hgO hO
            refine opWant 12 29 rfl rfl ((((show ac.tmps[29]?.getD undef = .bool (decide ((f : Int) < 0)) from hO.tm 12 29 rfl rfl)).trans (congrArg Value.bool hc11))) ?_
            exact relRun (v := .slice ao ws.length co) (w' := u) (by have c2 : u.cell? ⟨w.heap.size, 2, none⟩ = some (.slice ao ws.length co) := (p2.below hbO).cell 2; have e36 : ac.tmps[36]?.getD undef = .pointer (some ⟨w.heap.size, 2, none⟩) := (show ac.tmps[36]?.getD undef = .pointer (some ⟨w.heap.size, 2, none⟩) from hO.tm 19 36 rfl rfl); simp [go_sem, e36, c2]) (okP hgO rfl)
          · intro ac gs u hbO hgO hO
            refine opWant 12 29 rfl rfl ((((show ac.tmps[29]?.getD undef = .bool (decide ((f : Int) < 0)) from hO.tm 12 29 rfl rfl)).trans (congrArg Value.bool hc11))) ?_
            exact relRun (v := .int .i64 (f : Int)) (w' := u) (by exact E.xMv rfl ((hO.inm 7 rfl (hF.ev 7 _ rfl)))) (okP hgO rfl)
          · intro ac gs u hbO hgO hO
            refine opWant 12 29 rfl rfl ((((show ac.tmps[29]?.getD undef = .bool (decide ((f : Int) < 0)) from hO.tm 12 29 rfl rfl)).trans (congrArg Value.bool hc11))) ?_
            exact relRun (v := .pointer (some ⟨g, o + f * 2, none⟩)) (w' := u) (by exact E.xIdx (x := .tmp 38) (i := f) (ofs := o) (k := 2) rfl (by have e := (show ac.tmps[37]?.getD undef = .slice ao ws.length co from hO.tm 20 37 rfl rfl); rw [ea] at e; exact e) ((E.ev_of ((show ac.tmps[38]?.getD undef = .int .i64 (f : Int) from hO.tm 21 38 rfl rfl)))) Try.underlying54 (by kernel_rfl) (by omega)) (okP hgO rfl)
          · intro ac gs u hbO hgO hO
            refine opWant 12 29 rfl rfl ((((show ac.tmps[29]?.getD undef = .bool (decide ((f : Int) < 0)) from hO.tm 12 29 rfl rfl)).trans (congrArg Value.bool hc11))) ?_
            exact relRun (v := .pointer (some ⟨g, o + f * 2 + 1, none⟩)) (w' := u) (by have e39 : ac.tmps[39]?.getD undef = .pointer (some ⟨g, o + f * 2, none⟩) := (show ac.tmps[39]?.getD undef = .pointer (some ⟨g, o + f * 2, none⟩) from hO.tm 22 39 rfl rfl); simp [go_sem, e39]) (okP hgO rfl)
          · intro ac gs u hbO hgO hO
            refine opWant 12 29 rfl rfl ((((show ac.tmps[29]?.getD undef = .bool (decide ((f : Int) < 0)) from hO.tm 12 29 rfl rfl)).trans (congrArg Value.bool hc11))) ?_
            exact relRun (v := .int .i64 (ws[f].2)) (w' := u) (by have c1 : u.cell? ⟨g, o + f * 2 + 1, none⟩ = some (.int .i64 (ws[f].2)) := (QAt.cellsAt (h.below hbO) ea hf).2; have e40 : ac.tmps[40]?.getD undef = .pointer (some ⟨g, o + f * 2 + 1, none⟩) := (show ac.tmps[40]?.getD undef = .pointer (some ⟨g, o + f * 2 + 1, none⟩) from hO.tm 23 40 rfl rfl); simp [go_sem, e40, c1]) (okP hgO rfl)
          · intro ac gs u hbO hgO hO
            refine opWant 12 29 rfl rfl ((((show ac.tmps[29]?.getD undef = .bool (decide ((f : Int) < 0)) from hO.tm 12 29 rfl rfl)).trans (congrArg Value.bool hc11))) ?_
            exact relRun (v := .bool (decide (ws[j].2 < ws[f].2))) (w' := u) (by have e35 : ac.tmps[35]?.getD undef = .int .i64 (ws[j].2) := (show ac.tmps[35]?.getD undef = .int .i64 (ws[j].2) from hO.tm 18 35 rfl rfl); have e41 : ac.tmps[41]?.getD undef = .int .i64 (ws[f].2) := (show ac.tmps[41]?.getD undef = .int .i64 (ws[f].2) from hO.tm 24 41 rfl rfl); simp [go_sem, e35, e41]) (okP hgO rfl)
          · intro ac gs u hbO hgO hO
            refine opWant 9 26 rfl rfl ((((show ac.tmps[26]?.getD undef = .bool (decide (ws[j].2 ≤ cutT now)) from hO.tm 9 26 rfl rfl)).trans (congrArg Value.bool hc10))) ?_
            exact relRun (v := .bool (decide (ws[j].2 < ws[f].2))) (w' := u) (by have e29 : ac.tmps[29]?.getD undef = .bool (decide ((f : Int) < 0)) := (show ac.tmps[29]?.getD undef = .bool (decide ((f : Int) < 0)) from hO.tm 12 29 rfl rfl); have e42 : ac.tmps[42]?.getD undef = .bool (decide (ws[j].2 < ws[f].2)) := (show ac.tmps[42]?.getD undef = .bool (decide (ws[j].2 < ws[f].2)) from hO.tm 25 42 rfl rfl); simp [go_sem, e29, e42, hc11]) (okP hgO rfl)
          · intro ac gs u hbO hgO hO
            refine opFree rfl ?_
            exact relRun (v := .bool (decide (ws[j].2 < ws[f].2))) (w' := u) (by have e26 : ac.tmps[26]?.getD undef = .bool (decide (ws[j].2 ≤ cutT now)) := (show ac.tmps[26]?.getD undef = .bool (decide (ws[j].2 ≤ cutT now)) from hO.tm 9 26 rfl rfl); have e43 : ac.tmps[43]?.getD undef = .bool (decide (ws[j].2 < ws[f].2)) := (show ac.tmps[43]?.getD undef = .bool (decide (ws[j].2 < ws[f].2)) from hO.tm 26 43 rfl rfl); simp [go_sem, e26, e43, hc10]) (okP hgO rfl)
          intro vs gs w19 hb20 hgO hrO
          have r0 : vs 0 = .pointer (some ⟨w.heap.size, 2, none⟩) := hrO 0 (by decide)
          have r1 : vs 1 = .slice ao ws.length co := hrO 1 (by decide)
          have r2 : vs 2 = .int .i64 (j : Int) := hrO 2 (by decide)
          have r3 : vs 3 = .pointer (some ⟨g, o + j * 2, none⟩) := hrO 3 (by decide)
          have r4 : vs 4 = .pointer (some ⟨g, o + j * 2 + 1, none⟩) := hrO 4 (by decide)
          have r5 : vs 5 = .int .i64 (ws[j].2) := hrO 5 (by decide)
          have r6 : vs 6 = .int .i64 now := hrO 6 (by decide)
          have r7 : vs 7 = .int .i64 (cutT now) := hrO 7 (by decide)
          have r8 : vs 8 = .bool (decide (ws[j].2 ≤ cutT now)) := hrO 8 (by decide)
          have r9 : vs 9 = .bool (decide (ws[j].2 ≤ cutT now)) := hrO 9 (by decide)
          have r10 : vs 10 = .int .i64 (f : Int) := hrO 10 (by decide)
          have r11 : vs 11 = .bool (decide ((f : Int) < 0)) := hrO 11 (by decide)
          have r12 : vs 12 = .bool (decide ((f : Int) < 0)) := hrO 12 (by decide)
          have r13 : vs 13 = .pointer (some ⟨w.heap.size, 2, none⟩) := hrO 13 (by decide)
          have r14 : vs 14 = .slice ao ws.length co := hrO 14 (by decide)
          have r15 : vs 15 = .int .i64 (j : Int) := hrO 15 (by decide)
          have r16 : vs 16 = .pointer (some ⟨g, o + j * 2, none⟩) := hrO 16 (by decide)
          have r17 : vs 17 = .pointer (some ⟨g, o + j * 2 + 1, none⟩) := hrO 17 (by decide)
          have r18 : vs 18 = .int .i64 (ws[j].2) := hrO 18 (by decide)
          have r19 : vs 19 = .pointer (some ⟨w.heap.size, 2, none⟩) := hrO 19 (by decide)
          have r20 : vs 20 = .slice ao ws.length co := hrO 20 (by decide)
          have r21 : vs 21 = .int .i64 (f : Int) := hrO 21 (by decide)
          have r22 : vs 22 = .pointer (some ⟨g, o + f * 2, none⟩) := hrO 22 (by decide)
          have r23 : vs 23 = .pointer (some ⟨g, o + f * 2 + 1, none⟩) := hrO 23 (by decide)
          have r24 : vs 24 = .int .i64 (ws[f].2) := hrO 24 (by decide)
          have r25 : vs 25 = .bool (decide (ws[j].2 < ws[f].2)) := hrO 25 (by decide)
          have r26 : vs 26 = .bool (decide (ws[j].2 < ws[f].2)) := hrO 26 (by decide)
          have r27 : vs 27 = .bool (decide (ws[j].2 < ws[f].2)) := hrO 27 (by decide)
          intro a hF'; clear hF hrO; have hF := hF'; clear hF'
          simp only [List.take_succ_cons, List.take_zero, E.putsM, r0, r1, r2, r3, r4, r5, r6, r7, r8, r9, r10, r11, r12, r13, r14, r15, r16, r17, r18, r19, r20, r21, r22, r23, r24, r25, r26, r27] at hF
          clear r0 r1 r2 r3 r4 r5 r6 r7 r8 r9 r10 r11 r12 r13 r14 r15 r16 r17 r18 r19 r20 r21 r22 r23 r24 r25 r26 r27
          replace h := h.below hb20
          replace p2 := p2.below hb20
          replace p4 := p4.below hb20
          replace o6 := K.own_of o6 (fun x hx => hb20.block x (K.own_lt o6 hx))
          replace hC := hC.below hb20
          have z21 : wr2.heap.size ≤ w19.heap.size := hb20.size
          clear hb20 hgO
          simp only [List.drop_succ_cons, List.drop_zero]
          refine wpList_nil ?_
          have hlq : lateQ now ws[j] = true := by unfold lateQ lateT; rw [hcut _ (List.getElem_mem hlt)]; exact hc10
          have hsel' := hsel.skip hlt (.inr ⟨f, rfl, hf, by have := of_decide_eq_false hc15; omega⟩)
          replace hF := hF.sub (m' := [(44, .bool (decide (ws[j].2 < ws[f].2))), (8, .int .i64 (j : Int)), (7, .int .i64 (f : Int)), (6, .slice ra_o6 ((out).length) rc_o6), (4, .pointer (some ⟨w3.heap.size, 0, none⟩)), (2, .pointer (some ⟨w.heap.size, 0, none⟩)), (1, .int .i64 now)]) ⟨rfl, rfl, rfl, rfl, rfl, rfl, rfl, trivial⟩
          refine E.then_norm (hK9 _ _ ?_)
          refine E.condF rfl (((hF.at 44 rfl).trans (congrArg Value.bool hc15))) ?_
          refine wp_skip ?_
          refine E.in_norm ?_
          refine E.then_norm (hK8 _ _ ?_)
          refine wp_region_lit ?_  -- R5
          refine E.val (d := 15) (v := .int .i64 (j : Int)) (w' := w19) rfl rfl rfl hF (by exact E.xMv rfl (hF.at 8 rfl)) ?_
          clear hF a; intro a hF
          refine E.val (d := 16) (v := .int .i64 ((j : Int) + 1)) (w' := w19) rfl rfl rfl hF (by have hr : IntKind.i64.wrap ((j : Int) + 1) = (j : Int) + 1 := E.wrapI (by omega) (by omega); have e15 : a.tmps[15]?.getD undef = .int .i64 (j : Int) := hF.at 15 rfl; simp [go_sem, e15, hr]) ?_
          clear hF a; intro a hF
          refine E.val (d := 8) (v := .int .i64 ((j : Int) + 1)) (w' := w19) rfl rfl rfl hF (by exact E.xAs rfl (hF.at 16 rfl)) ?_
          clear hF a; intro a hF
          refine wpList_nil ?_
          refine E.then_norm ?_
          exact ⟨_, by omega, j + 1, (f : Int), rfl, hF.sub (by exact ⟨rfl, rfl, rfl, rfl, rfl, rfl, trivial⟩), hC, by omega, h, p2, p4, o6, by omega, hsel'⟩
    ·
      refine E.tab 28 [Sp.eq (.pointer (some ⟨w.heap.size, 2, none⟩)), Sp.eq (.slice ao ws.length co), Sp.eq (.int .i64 (j : Int)), Sp.eq (.pointer (some ⟨g, o + j * 2, none⟩)), Sp.eq (.pointer (some ⟨g, o + j * 2 + 1, none⟩)), Sp.eq (.int .i64 (ws[j].2)), Sp.eq (.int .i64 now), Sp.eq (.int .i64 (cutT now)), Sp.eq (.bool (decide (ws[j].2 ≤ cutT now))), Sp.eq (.bool (decide (ws[j].2 ≤ cutT now))), Sp.eq undef, Sp.eq undef, Sp.eq undef, Sp.eq undef, Sp.eq undef, Sp.eq undef, Sp.eq undef, Sp.eq undef, Sp.eq undef, Sp.eq undef, Sp.eq undef, Sp.eq undef, Sp.eq undef, Sp.eq undef, Sp.eq undef, Sp.eq undef, Sp.eq undef, Sp.eq (.bool false)] hF (fun _ _ _ _ _ h => h) (by kernel_rfl) (by kernel_rfl) ⟨?_, ?_, ?_, ?_, ?_, ?_, ?_, ?_, ?_, ?_, ?_, ?_, ?_, ?_, ?_, ?_, ?_, ?_, ?_, ?_, ?_, ?_, ?_, ?_, ?_, ?_, ?_, ?_, trivial⟩ ?_  -- R6
      · intro ac gs u hbO hgO hO
        refine opFree rfl ?_
        exact relRun (v := .pointer (some ⟨w.heap.size, 2, none⟩)) (w' := u) (by have e2 : ac.tmps[2]?.getD undef = .pointer (some ⟨w.heap.size, 0, none⟩) := (hO.inm 2 rfl (hF.ev 2 _ rfl)); simp [go_sem, e2]) (okP hgO rfl)
      · intro ac gs u hbO hgO hO
        refine opFree rfl ?_
        exact relRun (v := .slice ao ws.length co) (w' := u) (by have c2 : u.cell? ⟨w.heap.size, 2, none⟩ = some (.slice ao ws.length co) := (p2.below hbO).cell 2; have e17 : ac.tmps[17]?.getD undef = .pointer (some ⟨w.heap.size, 2, none⟩) := (show ac.tmps[17]?.getD undef = .pointer (some ⟨w.heap.size, 2, none⟩) from hO.tm 0 17 rfl rfl); simp [go_sem, e17, c2]) (okP hgO rfl)
      · intro ac gs u hbO hgO hO
        refine opFree rfl ?_
        exact relRun (v := .int .i64 (j : Int)) (w' := u) (by exact E.xMv rfl ((hO.inm 8 rfl (hF.ev 8 _ rfl)))) (okP hgO rfl)
      · intro ac gs u hbO hgO hO
        refine opFree rfl ?_
        exact relRun (v := .pointer (some ⟨g, o + j * 2, none⟩)) (w' := u) (by exact E.xIdx (x := .tmp 19) (i := j) (ofs := o) (k := 2) rfl (by have e := (show ac.tmps[18]?.getD undef = .slice ao ws.length co from hO.tm 1 18 rfl rfl); rw [ea] at e; exact e) ((E.ev_of ((show ac.tmps[19]?.getD undef = .int .i64 (j : Int) from hO.tm 2 19 rfl rfl)))) Try.underlying54 (by kernel_rfl) (by omega)) (okP hgO rfl)
      · intro ac gs u hbO hgO hO
        refine opFree rfl ?_
        exact relRun (v := .pointer (some ⟨g, o + j * 2 + 1, none⟩)) (w' := u) (by have e20 : ac.tmps[20]?.getD undef = .pointer (some ⟨g, o + j * 2, none⟩) := (show ac.tmps[20]?.getD undef = .pointer (some ⟨g, o + j * 2, none⟩) from hO.tm 3 20 rfl rfl); simp [go_sem, e20]) (okP hgO rfl)
      · intro ac gs u hbO hgO hO
        refine opFree rfl ?_
        exact relRun (v := .int .i64 (ws[j].2)) (w' := u) (by have c1 : u.cell? ⟨g, o + j * 2 + 1, none⟩ = some (.int .i64 (ws[j].2)) := (QAt.cellsAt (h.below hbO) ea hlt).2; have e21 : ac.tmps[21]?.getD undef = .pointer (some ⟨g, o + j * 2 + 1, none⟩) := (show ac.tmps[21]?.getD undef = .pointer (some ⟨g, o + j * 2 + 1, none⟩) from hO.tm 4 21 rfl rfl); simp [go_sem, e21, c1]) (okP hgO rfl)
      · intro ac gs u hbO hgO hO
        refine opFree rfl ?_
        exact relRun (v := .int .i64 now) (w' := u) (by exact E.xMv rfl ((hO.inm 1 rfl (hF.ev 1 _ rfl)))) (okP hgO rfl)
      · intro ac gs u hbO hgO hO
        refine opFree rfl ?_
        refine relCall (f := 41) (args := #[.int .i64 now]) (by have e23 : ac.tmps[23]?.getD undef = .int .i64 now := (show ac.tmps[23]?.getD undef = .int .i64 now from hO.tm 6 23 rfl rfl); simp [go_sem, e23]) ?_
        refine Calls.mono (rcut_c _ now) ?_
        rintro e u' ⟨rfl, rfl⟩
        exact ⟨_, rfl, okP hgO rfl⟩
      · intro ac gs u hbO hgO hO
        refine opFree rfl ?_
        exact relRun (v := .bool (decide (ws[j].2 ≤ cutT now))) (w' := u) (by have e22 : ac.tmps[22]?.getD undef = .int .i64 (ws[j].2) := (show ac.tmps[22]?.getD undef = .int .i64 (ws[j].2) from hO.tm 5 22 rfl rfl); have e24 : ac.tmps[24]?.getD undef = .int .i64 (cutT now) := (show ac.tmps[24]?.getD undef = .int .i64 (cutT now) from hO.tm 7 24 rfl rfl); simp [go_sem, e22, e24]) (okP hgO rfl)
      · intro ac gs u hbO hgO hO
        refine opFree rfl ?_
        exact relRun (v := .bool (decide (ws[j].2 ≤ cutT now))) (w' := u) (by exact E.xMv rfl ((show ac.tmps[25]?.getD undef = .bool (decide (ws[j].2 ≤ cutT now)) from hO.tm 8 25 rfl rfl))) (okP hgO rfl)
      · intro ac gs u hbO hgO hO
        exact opSkip 9 26 (b := false) rfl rfl ((((show ac.tmps[26]?.getD undef = .bool (decide (ws[j].2 ≤ cutT now)) from hO.tm 9 26 rfl rfl)).trans (congrArg Value.bool hc10))) rfl rfl
      · intro ac gs u hbO hgO hO
        exact opSkip 9 26 (b := false) rfl rfl ((((show ac.tmps[26]?.getD undef = .bool (decide (ws[j].2 ≤ cutT now)) from hO.tm 9 26 rfl rfl)).trans (congrArg Value.bool hc10))) rfl rfl
      · intro ac gs u hbO hgO hO
        exact opSkip 9 26 (b := false) rfl rfl ((((show ac.tmps[26]?.getD undef = .bool (decide (ws[j].2 ≤ cutT now)) from hO.tm 9 26 rfl rfl)).trans (congrArg Value.bool hc10))) rfl rfl
      · intro ac gs u hbO hgO hO
        exact E.opSkipU 12 29 rfl rfl ((show ac.tmps[29]?.getD undef = undef from hO.tm 12 29 rfl rfl)) rfl
      · intro ac gs u hbO hgO hO
        exact E.opSkipU 12 29 rfl rfl ((show ac.tmps[29]?.getD undef = undef from hO.tm 12 29 rfl rfl)) rfl
      · intro ac gs u hbO hgO hO
        exact E.opSkipU 12 29 rfl rfl ((show ac.tmps[29]?.getD undef = undef from hO.tm 12 29 rfl rfl)) rfl
      · intro ac gs u hbO hgO hO
        exact E.opSkipU 12 29 rfl rfl ((show ac.tmps[29]?.getD undef = undef from hO.tm 12 29 rfl rfl)) rfl
      · intro ac gs u hbO hgO hO
        exact E.opSkipU 12 29 rfl rfl ((show ac.tmps[29]?.getD undef = undef from hO.tm 12 29 rfl rfl)) rfl
      · intro ac gs u hbO hgO hO
        exact E.opSkipU 12 29 rfl rfl ((show ac.tmps[29]?.getD undef = undef from hO.tm 12 29 rfl rfl)) rfl
      · intro ac gs u hbO hgO hO
        exact E.opSkipU 12 29 rfl rfl ((show ac.tmps[29]?.getD undef = undef from hO.tm 12 29 rfl rfl)) rfl
      · intro ac gs u hbO hgO hO
        exact E.opSkipU 12 29 rfl rfl ((show ac.tmps[29]?.getD undef = undef from hO.tm 12 29 rfl rfl)) rfl
      · intro ac gs u hbO hgO hO
        exact E.opSkipU 12 29 rfl rfl ((show ac.tmps[29]?.getD undef = undef from hO.tm 12 29 rfl rfl)) rfl
      · intro ac gs u hbO hgO hO
        exact E.opSkipU 12 29 rfl rfl ((show ac.tmps[29]?.getD undef = undef from hO.tm 12 29 rfl rfl)) rfl
      · intro ac gs u hbO hgO hO
        exact E.opSkipU 12 29 rfl rfl ((show ac.tmps[29]?.getD undef = undef from hO.tm 12 29 rfl rfl)) rfl
      · intro ac gs u hbO hgO hO
        exact E.opSkipU 12 29 rfl rfl ((show ac.tmps[29]?.getD undef = undef from hO.tm 12 29 rfl rfl)) rfl
      · intro ac gs u hbO hgO hO
        exact E.opSkipU 12 29 rfl rfl ((show ac.tmps[29]?.getD undef = undef from hO.tm 12 29 rfl rfl)) rfl
      · intro ac gs u hbO hgO hO
        exact opSkip 9 26 (b := false) rfl rfl ((((show ac.tmps[26]?.getD undef = .bool (decide (ws[j].2 ≤ cutT now)) from hO.tm 9 26 rfl rfl)).trans (congrArg Value.bool hc10))) rfl rfl
      · intro ac gs u hbO hgO hO
        refine opFree rfl ?_
        exact relRun (v := .bool false) (w' := u) (by have e26 : ac.tmps[26]?.getD undef = .bool (decide (ws[j].2 ≤ cutT now)) := (show ac.tmps[26]?.getD undef = .bool (decide (ws[j].2 ≤ cutT now)) from hO.tm 9 26 rfl rfl); simp [go_sem, e26, hc10]) (okP hgO rfl)
      intro vs gs w22 hb23 hgO hrO
      have r0 : vs 0 = .pointer (some ⟨w.heap.size, 2, none⟩) := hrO 0 (by decide)
      have r1 : vs 1 = .slice ao ws.length co := hrO 1 (by decide)
      have r2 : vs 2 = .int .i64 (j : Int) := hrO 2 (by decide)
      have r3 : vs 3 = .pointer (some ⟨g, o + j * 2, none⟩) := hrO 3 (by decide)
      have r4 : vs 4 = .pointer (some ⟨g, o + j * 2 + 1, none⟩) := hrO 4 (by decide)
      have r5 : vs 5 = .int .i64 (ws[j].2) := hrO 5 (by decide)
      have r6 : vs 6 = .int .i64 now := hrO 6 (by decide)
      have r7 : vs 7 = .int .i64 (cutT now) := hrO 7 (by decide)
      have r8 : vs 8 = .bool (decide (ws[j].2 ≤ cutT now)) := hrO 8 (by decide)
      have r9 : vs 9 = .bool (decide (ws[j].2 ≤ cutT now)) := hrO 9 (by decide)
      have r10 : vs 10 = undef := hrO 10 (by decide)
      have r11 : vs 11 = undef := hrO 11 (by decide)
      have r12 : vs 12 = undef := hrO 12 (by decide)
      have r13 : vs 13 = undef := hrO 13 (by decide)
      have r14 : vs 14 = undef := hrO 14 (by decide)
      have r15 : vs 15 = undef := hrO 15 (by decide)
      have r16 : vs 16 = undef := hrO 16 (by decide)
      have r17 : vs 17 = undef := hrO 17 (by decide)
      have r18 : vs 18 = undef := hrO 18 (by decide)
      have r19 : vs 19 = undef := hrO 19 (by decide)
      have r20 : vs 20 = undef := hrO 20 (by decide)
      have r21 : vs 21 = undef := hrO 21 (by decide)
      have r22 : vs 22 = undef := hrO 22 (by decide)
      have r23 : vs 23 = undef := hrO 23 (by decide)
      have r24 : vs 24 = undef := hrO 24 (by decide)
      have r25 : vs 25 = undef := hrO 25 (by decide)
      have r26 : vs 26 = undef := hrO 26 (by decide)
      have r27 : vs 27 = .bool false := hrO 27 (by decide)
      intro a hF'; clear hF hrO; have hF := hF'; clear hF'
      simp only [List.take_succ_cons, List.take_zero, E.putsM, r0, r1, r2, r3, r4, r5, r6, r7, r8, r9, r10, r11, r12, r13, r14, r15, r16, r17, r18, r19, r20, r21, r22, r23, r24, r25, r26, r27] at hF
      clear r0 r1 r2 r3 r4 r5 r6 r7 r8 r9 r10 r11 r12 r13 r14 r15 r16 r17 r18 r19 r20 r21 r22 r23 r24 r25 r26 r27
      replace h := h.below hb23
      replace p2 := p2.below hb23
      replace p4 := p4.below hb23
      replace o6 := K.own_of o6 (fun x hx => hb23.block x (K.own_lt o6 hx))
      replace hC := hC.below hb23
      have z24 : wr2.heap.size ≤ w22.heap.size := hb23.size
      clear hb23 hgO
      simp only [List.drop_succ_cons, List.drop_zero]
      refine wpList_nil ?_
      have hlq : lateQ now ws[j] = false := by unfold lateQ lateT; rw [hcut _ (List.getElem_mem hlt)]; exact hc10
      have hsel' := hsel.skip hlt (.inl hlq)
      replace hF := hF.sub (m' := [(44, .bool false), (8, .int .i64 (j : Int)), (7, .int .i64 F), (6, .slice ra_o6 ((out).length) rc_o6), (4, .pointer (some ⟨w3.heap.size, 0, none⟩)), (2, .pointer (some ⟨w.heap.size, 0, none⟩)), (1, .int .i64 now)]) ⟨rfl, rfl, rfl, rfl, rfl, rfl, rfl, trivial⟩
      refine E.then_norm (hK9 _ _ ?_)
      refine E.condF rfl (hF.at 44 rfl) ?_
      refine wp_skip ?_
      refine E.in_norm ?_
      refine E.then_norm (hK8 _ _ ?_)
      refine wp_region_lit ?_  -- R5
      refine E.val (d := 15) (v := .int .i64 (j : Int)) (w' := w22) rfl rfl rfl hF (by exact E.xMv rfl (hF.at 8 rfl)) ?_
      clear hF a; intro a hF
      refine E.val (d := 16) (v := .int .i64 ((j : Int) + 1)) (w' := w22) rfl rfl rfl hF (by have hr : IntKind.i64.wrap ((j : Int) + 1) = (j : Int) + 1 := E.wrapI (by omega) (by omega); have e15 : a.tmps[15]?.getD undef = .int .i64 (j : Int) := hF.at 15 rfl; simp [go_sem, e15, hr]) ?_
      clear hF a; intro a hF
      refine E.val (d := 8) (v := .int .i64 ((j : Int) + 1)) (w' := w22) rfl rfl rfl hF (by exact E.xAs rfl (hF.at 16 rfl)) ?_
      clear hF a; intro a hF
      refine wpList_nil ?_
      refine E.then_norm ?_
      exact ⟨_, by omega, j + 1, F, rfl, hF.sub (by exact ⟨rfl, rfl, rfl, rfl, rfl, rfl, trivial⟩), hC, by omega, h, p2, p4, o6, by omega, hsel'⟩
  ·
    have hje : j = ws.length := by have := of_decide_eq_false hc9; omega
    subst hje
    refine E.condF rfl (((hF.at 14 rfl).trans (congrArg Value.bool hc9))) ?_
    refine wp_exit ?_
    refine E.then_exit ?_
    refine E.then_exit ?_
    refine E.exit_in ?_
    replace hF := hF.sub (m' := [(7, .int .i64 F), (6, .slice ra_o6 ((out).length) rc_o6), (4, .pointer (some ⟨w3.heap.size, 0, none⟩)), (2, .pointer (some ⟨w.heap.size, 0, none⟩)), (1, .int .i64 now)]) ⟨rfl, rfl, rfl, rfl, rfl, trivial⟩
    refine E.then_norm (hK4 _ _ ?_)
    refine wp_seq_k fun K10 hK10 => ?_
    refine wp_seq_k fun K11 hK11 => ?_
    refine wp_region_lit ?_  -- R8
    refine E.val (d := 46) (v := .int .i64 F) (w' := wr2) rfl rfl rfl hF (by exact E.xMv rfl (hF.at 7 rfl)) ?_
    clear hF a; intro a hF
    refine E.val (d := 47) (v := .bool (decide (F < 0))) (w' := wr2) rfl rfl rfl hF (by have e46 : a.tmps[46]?.getD undef = .int .i64 F := hF.at 46 rfl; simp [go_sem, e46]) ?_
    clear hF a; intro a hF
    refine wpList_nil ?_
    refine E.then_norm (hK11 _ _ ?_)
    rcases E.bsplit (decide (F < 0)) with hc25 | hc25
    ·
      obtain rfl : F = -1 := hsel.neg (of_decide_eq_true hc25)
      obtain ⟨hn1, hn2⟩ := hsel.none
      refine E.condT rfl (((hF.at 47 rfl).trans (congrArg Value.bool hc25))) ?_
      refine wp_seq_k fun K12 hK12 => ?_
      refine wp_region_lit ?_  -- R9
      refine E.val (d := 48) (v := .agg #[.int .i64 hold, .slice al nl cl, .slice ao ws.length co]) (w' := wr2) rfl rfl rfl hF (by exact xLoad rfl (hF.at 2 rfl) p2 Try.underlying56 rfl (by kernel_rfl)) ?_
      clear hF a; intro a hF
      refine E.val (d := 49) (v := .slice ra_o6 ((out).length) rc_o6) (w' := wr2) rfl rfl rfl hF (by exact E.xMv rfl (hF.at 6 rfl)) ?_
      clear hF a; intro a hF
      refine E.eff (w' := setN wr2 (w3.heap.size) 0 [.int .i64 hold, .slice al nl cl, .slice ao ws.length co]) rfl rfl (by exact xStore rfl (hF.at 4 rfl) (hF.at 48 rfl) p4 rfl (by kernel_rfl) rfl) ?_
      have hc26 : Chg (fun x => x = w3.heap.size) wr2 (setN wr2 (w3.heap.size) 0 [.int .i64 hold, .slice al nl cl, .slice ao ws.length co]) := setN_own _ _ _ _
      have z28 := hc26.size
      replace h := h.kept hc26.size (fun x hx hl => hc26.block x hl (fun hn => by have hn : x = w3.heap.size := hn; obtain ⟨hx0, hx1⟩ := hx; omega))
      replace p2 := p2.chg hc26 (fun e => by have e : w.heap.size = w3.heap.size := e; omega)
      replace o6 := K.own_of o6 (fun x hx => hc26.block x (K.own_lt o6 hx) (fun hn => by have hn : x = w3.heap.size := hn; have := own_block_ge o6 x hx; omega))
      replace p4 : pts (setN wr2 (w3.heap.size) 0 [.int .i64 hold, .slice al nl cl, .slice ao ws.length co]) (w3.heap.size) [.int .i64 hold, .slice al nl cl, .slice ao ws.length co] 56 := setN_pts0 p4 _ rfl
      replace hC := hC.trans hc26 (fun x hx => .inr (by omega))
      clear hc26; generalize setN wr2 (w3.heap.size) 0 [.int .i64 hold, .slice al nl cl, .slice ao ws.length co] = w27 at hC z28 h p2 p4 o6 ⊢
      refine E.val (d := 5) (v := .slice ra_o6 ((out).length) rc_o6) (w' := w27) rfl rfl rfl hF (by exact E.xAs rfl (hF.at 49 rfl)) ?_
      clear hF a; intro a hF
      refine wpList_nil ?_
      replace hF := hF.sub (m' := [(5, .slice ra_o6 ((out).length) rc_o6), (4, .pointer (some ⟨w3.heap.size, 0, none⟩))]) ⟨rfl, rfl, trivial⟩
      refine E.then_norm (hK12 _ _ ?_)
      refine wp_ret ?_
      refine E.then_ret ?_
      refine E.in_ret ?_
      refine E.then_ret ?_
      refine E.in_ret ?_
      refine E.ret (v := .tuple #[.agg #[.int .i64 hold, .slice al nl cl, .slice ao ws.length co], .slice ra_o6 ((out).length) rc_o6]) hF (by have e4 : a.tmps[4]?.getD undef = .pointer (some ⟨w3.heap.size, 0, none⟩) := hF.at 4 rfl; have c4_0 : w27.cell? ⟨w3.heap.size, 0, none⟩ = some (.int .i64 hold) := p4.cell 0; have c4_1 : w27.cell? ⟨w3.heap.size, 1, none⟩ = some (.slice al nl cl) := p4.cell 1; have c4_2 : w27.cell? ⟨w3.heap.size, 2, none⟩ = some (.slice ao ws.length co) := p4.cell 2; have e5 : a.tmps[5]?.getD undef = .slice ra_o6 ((out).length) rc_o6 := hF.at 5 rfl; simp [results, Try.results28, go_sem, e4, c4_0, c4_1, c4_2, e5]) ?_
      have hB := E.below_of hC
      unfold ExpR
      rw [hn1] at hout; simp only [List.map_nil, List.append_nil] at hout; rw [← hrest, hn2, ← hout]
      exact ⟨_, _, rfl, h.mono (fun x hx _ => hx.1.imp (fun h => h.1) (fun h => by omega)), (K.IntsAt.of_own (by rw [← E.flat_encI]; exact o6)).mono (fun x hx _ => by omega), hB⟩
    ·
      obtain ⟨f, rfl, -, hf⟩ := hsel.pos (by have := of_decide_eq_false hc25; omega)
      obtain ⟨_, hs1, hs2⟩ := hsel.some hcut
      obtain ⟨g, o, ea, -, hg, c0, c1⟩ := QAt.cells h hf
      refine E.condF rfl (((hF.at 47 rfl).trans (congrArg Value.bool hc25))) ?_
      refine wp_skip ?_
      refine E.then_norm (hK10 _ _ ?_)
      refine wp_seq_k fun K13 hK13 => ?_
      refine wp_region_lit ?_  -- R10
      refine E.val (d := 50) (v := .slice ra_o6 ((out).length) rc_o6) (w' := wr2) rfl rfl rfl hF (by exact E.xMv rfl (hF.at 6 rfl)) ?_
      clear hF a; intro a hF
      refine E.val (d := 51) (v := .pointer (some ⟨w.heap.size, 2, none⟩)) (w' := wr2) rfl rfl rfl hF (by have e2 : a.tmps[2]?.getD undef = .pointer (some ⟨w.heap.size, 0, none⟩) := hF.at 2 rfl; simp [go_sem, e2]) ?_
      clear hF a; intro a hF
      refine E.val (d := 52) (v := .slice ao ws.length co) (w' := wr2) rfl rfl rfl hF (by have c2 : wr2.cell? ⟨w.heap.size, 2, none⟩ = some (.slice ao ws.length co) := p2.cell 2; have e51 : a.tmps[51]?.getD undef = .pointer (some ⟨w.heap.size, 2, none⟩) := hF.at 51 rfl; simp [go_sem, e51, c2]) ?_
      clear hF a; intro a hF
      refine E.val (d := 53) (v := .int .i64 (f : Int)) (w' := wr2) rfl rfl rfl hF (by exact E.xMv rfl (hF.at 7 rfl)) ?_
      clear hF a; intro a hF
      refine E.val (d := 54) (v := .pointer (some ⟨g, o + f * 2, none⟩)) (w' := wr2) rfl rfl rfl hF (by exact E.xIdx (x := .tmp 53) (i := f) (ofs := o) (k := 2) rfl (by have e := hF.at 52 rfl; rw [ea] at e; exact e) ((E.ev_of (hF.at 53 rfl))) Try.underlying54 (by kernel_rfl) (by omega)) ?_
      clear hF a; intro a hF
      refine E.val (d := 55) (v := .pointer (some ⟨g, o + f * 2, none⟩)) (w' := wr2) rfl rfl rfl hF (by have e54 : a.tmps[54]?.getD undef = .pointer (some ⟨g, o + f * 2, none⟩) := hF.at 54 rfl; simp [go_sem, e54]) ?_
      clear hF a; intro a hF
      refine E.val (d := 56) (v := .int .i64 (ws[f].1)) (w' := wr2) rfl rfl rfl hF (by have c0 : wr2.cell? ⟨g, o + f * 2, none⟩ = some (.int .i64 (ws[f].1)) := (QAt.cellsAt h ea hf).1; have e55 : a.tmps[55]?.getD undef = .pointer (some ⟨g, o + f * 2, none⟩) := hF.at 55 rfl; simp [go_sem, e55, c0]) ?_
      clear hF a; intro a hF
      refine E.val (d := 57) (v := .slice (some ⟨wr2.heap.size, 0, none⟩) 1 1) (w' := wr2.alloc (.cells #[.int .i64 (ws[f].1)] 3)) rfl rfl rfl hF (by have e56 : a.tmps[56]?.getD undef = .int .i64 (ws[f].1) := hF.at 56 rfl; simp [go_sem, e56]) ?_
      clear hF a; intro a hF
      have hb29 := (Below.refl wr2.heap.size wr2).alloc (Nat.le_refl _) (.cells #[.int .i64 (ws[f].1)] 3)
      have p57 : pts (wr2.alloc (.cells #[.int .i64 (ws[f].1)] 3)) (wr2.heap.size) [.int .i64 (ws[f].1)] 3 := pts.newA wr2 #[.int .i64 (ws[f].1)] 3
      have z30 : wr2.heap.size < (wr2.alloc (.cells #[.int .i64 (ws[f].1)] 3)).heap.size := by simp
      replace h := h.mono (ok' := (fun x => ((ok x ∧ x < w.heap.size) ∨ w6.heap.size ≤ x) ∧ ((Value.slice ra_o6 ((out).length) rc_o6).ownBlock ≠ some x) ∧ (x ≠ wr2.heap.size))) (fun x hx hl => by obtain ⟨hx0, hx1⟩ := hx; exact ⟨hx0, hx1, (by omega)⟩)
      have ne32 : ∀ x, (Value.slice ra_o6 ((out).length) rc_o6).ownBlock = some x → x ≠ wr2.heap.size := fun x hx e => by have := K.own_lt o6 hx; omega
      replace h := h.below hb29
      replace p2 := p2.below hb29
      replace p4 := p4.below hb29
      replace o6 := K.own_of o6 (fun x hx => hb29.block x (K.own_lt o6 hx))
      replace hC := hC.below hb29
      clear hb29; generalize wr2.alloc (.cells #[.int .i64 (ws[f].1)] 3) = w31 at p57 z30 hC h p2 p4 o6 ⊢
      refine E.push (enc := E.encI) (y := ws[f].1) elI hF rfl rfl rfl 50 57 rfl (hF.at 50 rfl) o6 (by omega) (hF.at 57 rfl) p57 rfl (by intro u hu; simp only [E.encI, List.mem_cons, List.not_mem_nil, or_false] at hu; rcases hu with rfl <;> rfl) (by first | omega | (simp; omega)) (by omega) ?_
      rintro ra33 rc34 w37 o6' hg35 ho36
      have hc38 := E.chg_grown hg35; have z39 := hc38.size
      clear hF a; intro a hF
      replace h := (h.mono (ok' := fun x => (fun x => ((ok x ∧ x < w.heap.size) ∨ w6.heap.size ≤ x) ∧ ((Value.slice ra_o6 ((out).length) rc_o6).ownBlock ≠ some x) ∧ (x ≠ wr2.heap.size)) x ∧ x < w31.heap.size) (fun x hx hl => ⟨hx, hl⟩))
      replace h := (h.kept hc38.size (fun x hx hl => hc38.block x hl (fun hn => by obtain ⟨⟨hx0, hx1, hx2⟩, hy⟩ := hx; exact hx1 hn))).mono (ok' := (fun x => ((ok x ∧ x < w.heap.size) ∨ w6.heap.size ≤ x) ∧ ((Value.slice ra33 ((out ++ [ws[f].1]).length) rc34).ownBlock ≠ some x) ∧ (x ≠ wr2.heap.size))) (fun x hx _ => by obtain ⟨⟨hx0, hx1, hx2⟩, hy⟩ := hx; exact ⟨hx0, fun e => (ho36 x e).elim hx1 (fun h => by omega), hx2⟩)
      replace p2 := p2.chg hc38 (fun e => by have := own_block_ge o6 _ e; omega)
      replace p4 := p4.chg hc38 (fun e => by have := own_block_ge o6 _ e; omega)
      replace hC := hC.trans hc38 (fun x hx => .inr (by have := own_block_ge o6 x hx; omega))
      replace o6 := o6'; clear hc38 hg35 ho36 
      refine E.val (d := 6) (v := .slice ra33 ((out ++ [ws[f].1]).length) rc34) (w' := w37) rfl rfl rfl hF (by exact E.xAs rfl (hF.at 58 rfl)) ?_
      clear hF a; intro a hF
      refine wpList_nil ?_
      replace hF := hF.sub (m' := [(6, .slice ra33 ((out ++ [ws[f].1]).length) rc34), (7, .int .i64 (f : Int)), (4, .pointer (some ⟨w3.heap.size, 0, none⟩)), (2, .pointer (some ⟨w.heap.size, 0, none⟩)), (1, .int .i64 now)]) ⟨rfl, rfl, rfl, rfl, rfl, trivial⟩
      refine E.then_norm (hK13 _ _ ?_)
      refine wp_seq_k fun K14 hK14 => ?_
      refine wp_region_lit ?_  -- R11
      refine E.val (d := 9) (v := .slice none 0 0) (w' := w37) rfl rfl rfl hF (by exact E.xAsC rfl) ?_
      clear hF a; intro a hF
      refine wpList_nil ?_
      have o9 : w37.ownsRow (w37.heap.size) 80 2 (.slice none 0 0) ([] : List (Int × Int)).length (flat encQ []) := E.own_nil encQ _ _ _ _
      have nr40 : ∀ x, (Value.slice none 0 0).ownBlock = some x → (Value.slice ra33 ((out ++ [ws[f].1]).length) rc34).ownBlock ≠ some x := fun x h => E.nil_block h
      replace h := h.mono (ok' := (fun x => ((ok x ∧ x < w.heap.size) ∨ w6.heap.size ≤ x) ∧ ((Value.slice ra33 ((out ++ [ws[f].1]).length) rc34).ownBlock ≠ some x) ∧ (x ≠ wr2.heap.size) ∧ (x < w37.heap.size))) (fun x hx hl => by obtain ⟨hx0, hx1, hx2⟩ := hx; exact ⟨hx0, hx1, hx2, hl⟩)
      refine E.then_norm (hK14 _ _ ?_)
      refine wp_seq_k fun K15 hK15 => ?_
      refine wp_region_lit ?_  -- R12
      refine E.val (d := 59) (v := .slice none 0 0) (w' := w37) rfl rfl rfl hF (by exact E.xMv rfl (hF.at 9 rfl)) ?_
      clear hF a; intro a hF
      refine E.val (d := 60) (v := .pointer (some ⟨w.heap.size, 2, none⟩)) (w' := w37) rfl rfl rfl hF (by have e2 : a.tmps[2]?.getD undef = .pointer (some ⟨w.heap.size, 0, none⟩) := hF.at 2 rfl; simp [go_sem, e2]) ?_
      clear hF a; intro a hF
      refine E.val (d := 61) (v := .slice ao ws.length co) (w' := w37) rfl rfl rfl hF (by have c2 : w37.cell? ⟨w.heap.size, 2, none⟩ = some (.slice ao ws.length co) := p2.cell 2; have e60 : a.tmps[60]?.getD undef = .pointer (some ⟨w.heap.size, 2, none⟩) := hF.at 60 rfl; simp [go_sem, e60, c2]) ?_
      clear hF a; intro a hF
      refine E.val (d := 62) (v := .int .i64 (f : Int)) (w' := w37) rfl rfl rfl hF (by exact E.xMv rfl (hF.at 7 rfl)) ?_
      clear hF a; intro a hF
      refine E.val (d := 63) (v := .slice ao ((ws.take f).length) co) (w' := w37) rfl rfl rfl hF (by exact E.xTo (x := .tmp 62) (l := f) (k := 2) rfl (hF.at 61 rfl) ((E.ev_of (hF.at 62 rfl))) Try.underlying54 (by kernel_rfl) (by omega) (by omega)) ?_
      clear hF a; intro a hF
      have hs41 := E.RowAt.to h (hi := f) (by omega)
      refine E.pushSl (enc := encQ) elW encQ_len hF rfl rfl rfl 59 63 rfl (hF.at 59 rfl) o9 (by omega) (hF.at 63 rfl) hs41 (fun y _ => encQ_one y) (by first | omega | (simp; omega)) (by omega) ?_
      rintro ra42 rc43 w46 o9' hg44 ho45
      have hc47 := E.chg_grown hg44; have z48 := hc47.size
      clear hF a; intro a hF
      have ol_o6 : ∀ x, (Value.slice ra33 ((out ++ [ws[f].1]).length) rc34).ownBlock = some x → x < w37.heap.size := fun x e => K.own_lt o6 e
      replace h := h.kept hc47.size (fun x hx hl => hc47.block x hl (fun hn => by have := own_block_ge o9 x hn; obtain ⟨hx0, hx1, hx2, hx3⟩ := hx; omega))
      replace p2 := p2.chg hc47 (fun e => by have := own_block_ge o9 _ e; omega)
      replace p4 := p4.chg hc47 (fun e => by have := own_block_ge o9 _ e; omega)
      replace o6 := K.own_of o6 (fun x hx => hc47.block x (K.own_lt o6 hx) (fun hn => nr40 x hn hx))
      replace hs41 := hs41.kept hc47.size (fun x hx hl => hc47.block x hl (fun hn => by have := own_block_ge o9 x hn; obtain ⟨hx0, hx1, hx2, hx3⟩ := hx; omega))
      replace hC := hC.trans hc47 (fun x hx => .inr (by have := own_block_ge o9 x hx; omega))
      replace nr40 : ∀ x, (Value.slice ra42 ((([] : List (Int × Int)) ++ (ws.take f)).length) rc43).ownBlock = some x → (Value.slice ra33 ((out ++ [ws[f].1]).length) rc34).ownBlock ≠ some x := fun x hx e => (ho45 x hx).elim (fun h => nr40 x h e) (fun h => by have := ol_o6 x e; omega)
      replace o9 := o9'; clear hc47 hg44 ho45 ol_o6
      refine E.val (d := 9) (v := .slice ra42 ((([] : List (Int × Int)) ++ (ws.take f)).length) rc43) (w' := w46) rfl rfl rfl hF (by exact E.xAs rfl (hF.at 64 rfl)) ?_
      clear hF a; intro a hF
      refine wpList_nil ?_
      replace hF := hF.sub (m' := [(9, .slice ra42 ((([] : List (Int × Int)) ++ (ws.take f)).length) rc43), (6, .slice ra33 ((out ++ [ws[f].1]).length) rc34), (7, .int .i64 (f : Int)), (4, .pointer (some ⟨w3.heap.size, 0, none⟩)), (2, .pointer (some ⟨w.heap.size, 0, none⟩)), (1, .int .i64 now)]) ⟨rfl, rfl, rfl, rfl, rfl, rfl, trivial⟩
      refine E.then_norm (hK15 _ _ ?_)
      refine wp_region_lit ?_  -- R13
      refine E.val (d := 65) (v := .slice ra42 ((([] : List (Int × Int)) ++ (ws.take f)).length) rc43) (w' := w46) rfl rfl rfl hF (by exact E.xMv rfl (hF.at 9 rfl)) ?_
      clear hF a; intro a hF
      refine E.val (d := 66) (v := .pointer (some ⟨w.heap.size, 2, none⟩)) (w' := w46) rfl rfl rfl hF (by have e2 : a.tmps[2]?.getD undef = .pointer (some ⟨w.heap.size, 0, none⟩) := hF.at 2 rfl; simp [go_sem, e2]) ?_
      clear hF a; intro a hF
      refine E.val (d := 67) (v := .slice ao ws.length co) (w' := w46) rfl rfl rfl hF (by have c2 : w46.cell? ⟨w.heap.size, 2, none⟩ = some (.slice ao ws.length co) := p2.cell 2; have e66 : a.tmps[66]?.getD undef = .pointer (some ⟨w.heap.size, 2, none⟩) := hF.at 66 rfl; simp [go_sem, e66, c2]) ?_
      clear hF a; intro a hF
      refine E.val (d := 68) (v := .int .i64 (f : Int)) (w' := w46) rfl rfl rfl hF (by exact E.xMv rfl (hF.at 7 rfl)) ?_
      clear hF a; intro a hF
      refine E.val (d := 69) (v := .int .i64 ((f : Int) + 1)) (w' := w46) rfl rfl rfl hF (by have hr : IntKind.i64.wrap ((f : Int) + 1) = (f : Int) + 1 := E.wrapI (by omega) (by omega); have e68 : a.tmps[68]?.getD undef = .int .i64 (f : Int) := hF.at 68 rfl; simp [go_sem, e68, hr]) ?_
      clear hF a; intro a hF
      refine E.val (d := 70) (v := .slice (E.sl ao 2 (f + 1) co) ((ws.drop (f + 1)).length) (co - (f + 1))) (w' := w46) rfl rfl rfl hF (by exact E.xFrom (x := .tmp 69) (l := (f + 1)) rfl (hF.at 67 rfl) ((E.ev_of (hF.at 69 rfl))) Try.underlying54 (by kernel_rfl) (by omega) (by omega)) ?_
      clear hF a; intro a hF
      have hs49 := E.RowAt.from h (l := (f + 1)) (by omega)
      refine E.pushSl (enc := encQ) elW encQ_len hF rfl rfl rfl 65 70 rfl (hF.at 65 rfl) o9 (by omega) (hF.at 70 rfl) hs49 (fun y _ => encQ_one y) (by first | omega | (simp; omega)) (by omega) ?_
      rintro ra50 rc51 w54 o9' hg52 ho53
      have hc55 := E.chg_grown hg52; have z56 := hc55.size
      clear hF a; intro a hF
      have ol_o6 : ∀ x, (Value.slice ra33 ((out ++ [ws[f].1]).length) rc34).ownBlock = some x → x < w46.heap.size := fun x e => K.own_lt o6 e
      replace h := h.kept hc55.size (fun x hx hl => hc55.block x hl (fun hn => by have := own_block_ge o9 x hn; obtain ⟨hx0, hx1, hx2, hx3⟩ := hx; omega))
      replace p2 := p2.chg hc55 (fun e => by have := own_block_ge o9 _ e; omega)
      replace p4 := p4.chg hc55 (fun e => by have := own_block_ge o9 _ e; omega)
      replace o6 := K.own_of o6 (fun x hx => hc55.block x (K.own_lt o6 hx) (fun hn => nr40 x hn hx))
      replace hs41 := hs41.kept hc55.size (fun x hx hl => hc55.block x hl (fun hn => by have := own_block_ge o9 x hn; obtain ⟨hx0, hx1, hx2, hx3⟩ := hx; omega))
      replace hs49 := hs49.kept hc55.size (fun x hx hl => hc55.block x hl (fun hn => by have := own_block_ge o9 x hn; obtain ⟨hx0, hx1, hx2, hx3⟩ := hx; omega))
      replace hC := hC.trans hc55 (fun x hx => .inr (by have := own_block_ge o9 x hx; omega))
      replace nr40 : ∀ x, (Value.slice ra50 (((([] : List (Int × Int)) ++ (ws.take f)) ++ (ws.drop (f + 1))).length) rc51).ownBlock = some x → (Value.slice ra33 ((out ++ [ws[f].1]).length) rc34).ownBlock ≠ some x := fun x hx e => (ho53 x hx).elim (fun h => nr40 x h e) (fun h => by have := ol_o6 x e; omega)
      replace o9 := o9'; clear hc55 hg52 ho53 ol_o6
      refine E.val (d := 72) (v := .pointer (some ⟨w.heap.size, 2, none⟩)) (w' := w54) rfl rfl rfl hF (by have e2 : a.tmps[2]?.getD undef = .pointer (some ⟨w.heap.size, 0, none⟩) := hF.at 2 rfl; simp [go_sem, e2]) ?_
      clear hF a; intro a hF
      refine E.eff (w' := w54.setCell ⟨w.heap.size, 2, none⟩ (.slice ra50 (((([] : List (Int × Int)) ++ (ws.take f)) ++ (ws.drop (f + 1))).length) rc51)) rfl rfl (by have c := p2.cell 2; have fz := p2.frozen 2; have lt := p2.lt; simp only [List.getElem?_cons_zero, List.getElem?_cons_succ] at c; have e72 : a.tmps[72]?.getD undef = .pointer (some ⟨w.heap.size, 2, none⟩) := hF.at 72 rfl; have e71 : a.tmps[71]?.getD undef = .slice ra50 (((([] : List (Int × Int)) ++ (ws.take f)) ++ (ws.drop (f + 1))).length) rc51 := hF.at 71 rfl; simp [go_sem, e72, e71, c, fz, lt]) ?_
      have hc57 : Chg (fun x => x = w.heap.size) w54 (w54.setCell ⟨w.heap.size, 2, none⟩ (.slice ra50 (((([] : List (Int × Int)) ++ (ws.take f)) ++ (ws.drop (f + 1))).length) rc51)) := E.Chg.set1 _ _ _ _
      have z59 := hc57.size
      replace h := h.kept hc57.size (fun x hx hl => hc57.block x hl (fun hn => by have hn : x = w.heap.size := hn; obtain ⟨hx0, hx1, hx2, hx3⟩ := hx; omega))
      replace p4 := p4.chg hc57 (fun e => by have e : w3.heap.size = w.heap.size := e; omega)
      replace o6 := K.own_of o6 (fun x hx => hc57.block x (K.own_lt o6 hx) (fun hn => by have hn : x = w.heap.size := hn; have := own_block_ge o6 x hx; omega))
      replace o9 := K.own_of o9 (fun x hx => hc57.block x (K.own_lt o9 hx) (fun hn => by have hn : x = w.heap.size := hn; have := own_block_ge o9 x hx; omega))
      replace hs41 := hs41.kept hc57.size (fun x hx hl => hc57.block x hl (fun hn => by have hn : x = w.heap.size := hn; obtain ⟨hx0, hx1, hx2, hx3⟩ := hx; omega))
      replace hs49 := hs49.kept hc57.size (fun x hx hl => hc57.block x hl (fun hn => by have hn : x = w.heap.size := hn; obtain ⟨hx0, hx1, hx2, hx3⟩ := hx; omega))
      replace p2 : pts (w54.setCell ⟨w.heap.size, 2, none⟩ (.slice ra50 (((([] : List (Int × Int)) ++ (ws.take f)) ++ (ws.drop (f + 1))).length) rc51)) (w.heap.size) [.int .i64 hold, .slice al nl cl, .slice ra50 (((([] : List (Int × Int)) ++ (ws.take f)) ++ (ws.drop (f + 1))).length) rc51] 56 := E.pts.set1 p2 rfl
      replace hC := hC.trans hc57 (fun x hx => .inr (by omega))
      clear hc57; generalize w54.setCell ⟨w.heap.size, 2, none⟩ (.slice ra50 (((([] : List (Int × Int)) ++ (ws.take f)) ++ (ws.drop (f + 1))).length) rc51) = w58 at hC z59 h p2 p4 o6 o9 hs41 hs49 ⊢
      refine wpList_nil ?_
      refine E.in_norm ?_
      refine E.then_norm ?_
      have hq := (own_rowAt o9).mono (ok' := (fun x => ((ok x ∧ x < w.heap.size) ∨ w6.heap.size ≤ x) ∧ ((Value.slice ra33 ((out ++ [ws[f].1]).length) rc34).ownBlock ≠ some x))) (fun x hx _ => ⟨.inr (by have := own_block_ge o9 x hx; omega), fun e => nr40 x hx e⟩)
      obtain ⟨-, hq1, hq2, -⟩ := hq.get
      have hnl : (((([] : List (Int × Int)) ++ (ws.take f)) ++ (ws.drop (f + 1)))).length + 1 = ws.length := by simp; omega
      have hol : ((out ++ [ws[f].1])).length = out.length + 1 := by simp
      exact ⟨_, by omega, ((([] : List (Int × Int)) ++ (ws.take f)) ++ (ws.drop (f + 1))), (out ++ [ws[f].1]), ra50, rc51, ra33, rc34, rfl, hF.sub (by exact ⟨rfl, rfl, rfl, rfl, trivial⟩), hC, by omega, hq, p2, p4, o6, ⟨hq1, hq2, by omega, by omega⟩, fun e he => hcut e (sub_del he), fun e he => hsub e (sub_del he), by rw [← hout, hs1, List.nil_append, List.map_cons, List.append_assoc]; rfl, by rw [List.nil_append, hs2]; exact hrest⟩
  -- KLAW
end
end Go.Proofs.Ytnlmkllhmldgiaa.Rq
