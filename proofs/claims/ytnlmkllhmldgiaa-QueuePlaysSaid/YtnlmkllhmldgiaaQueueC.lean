/- DERIVED. The walks over the port: New, Len, Waiting, Waits, Put. -/
import Derived.Test.YtnlmkllhmldgiaaQueueB
import Derived.Deep.AppendLies
import Derived.Deep.RegionLaw
namespace Go.Proofs.Ytnlmkllhmldgiaa.Qu
set_option linter.unusedVariables false
set_option linter.unusedSimpArgs false
open Go.RowKit Go.Maps Go.Proofs.Ytnlmkllhmldgiaa.K Go.Proofs.Ytnlmkllhmldgiaa.Lb Go.Proofs.Ytnlmkllhmldgiaa.Wh

theorem elMsg : ElemOk Try.prog 44 27 5 56 := .mk' (z := .agg #[.slice none 0 0, .int .i64 0, .int .i64 0, .int .i64 0, .int .i64 0]) Try.underlying44 (by kernel_rfl) rfl (by decide)
def holdT (n : Int) : Int := min (max n 1) 8
def NewPort (w : World) (hold : Int) (e : Ending) (w' : World) : Prop := ∃ pb wb mb, e = .returned (.pointer (some ⟨pb, 0, none⟩)) ∧ PortAt w' w.heap.size pb wb mb (holdT hold) (.slice none 0 0) (.slice none 0 0) [] [] 0 (.map []) 0 ∧ Below w.heap.size w w'
theorem new_c (w : World) (hold : Int) : Calls Try.prog 9 #[.int .i64 hold] w (NewPort w hold) := by
  have h1 := minTwo
  have h2 := maxTwo
  go_enter Try.func9, Try.ntmps9
  go_wp2_with (first | (go_at_call 32; (with_reducible refine (Wh.new_c _).mono ?_); rintro e w1 ⟨wb, mb, rfl, hw, hwb, hmb, hb⟩; have hw := hid hw; have hb := hid hb))
  go_ret
  have hb2 := hb.out.alloc (o := .cells #[.pointer (some ⟨wb, 0, none⟩), .int .i64 (min (max hold 1) 8), .slice none 0 0, .slice none 0 0] 72) hb.out.size
  refine ⟨w1.heap.size, wb, mb, rfl, ⟨heap_at _ _ _ rfl, hw.out.below ((Below.refl _ _).alloc (Nat.le_refl _) _), World.ownsRow_nil _ _ _ _, World.ownsRow_nil _ _ _ _, WordsIn.nil _ _, hb.out.size, hwb, hmb⟩, hb2⟩
section
variable {w : World} {base pb wb mb : Nat} {hold : Int} {lv rv : Value} {ps : List (Value × Msg)} {xs : List Int} {n : Nat} {D : DataW Unit} {s : Int}
/-- The cells of a port. -/
theorem PortAt.cells (h : PortAt w base pb wb mb hold lv rv ps xs n D s) : w.cell? ⟨pb, 0, none⟩ = some (.pointer (some ⟨wb, 0, none⟩)) ∧ w.cell? ⟨pb, 1, none⟩ = some (.int .i64 hold) ∧ w.cell? ⟨pb, 2, none⟩ = some lv ∧ w.cell? ⟨pb, 3, none⟩ = some rv ∧ w.frozen? ⟨pb, 2, none⟩ = false ∧ w.frozen? ⟨pb, 3, none⟩ = false ∧ pb < w.heap.size :=
  ⟨h.at_.cell 0, h.at_.cell 1, h.at_.cell 2, h.at_.cell 3, h.at_.frozen 2, h.at_.frozen 3, h.at_.lt⟩
theorem len_c (h : PortAt w base pb wb mb hold lv rv ps xs n D s) : Calls Try.prog 18 #[.pointer (some ⟨pb, 0, none⟩)] w fun e w' => e = .returned (.int .i64 ps.length) ∧ w = w' := by
  obtain ⟨c0, c1, c2, c3, f2, f3, hpl⟩ := h.cells
  obtain ⟨al, cl, rfl⟩ := own_shape h.l
  have h := hid h
  go_enter Try.func18, Try.ntmps18
  go_wp2
  go_ret
  exact ⟨rfl, rfl⟩
theorem len_nil (w : World) : Calls Try.prog 18 #[.pointer none] w fun e w' => e = .returned (.int .i64 0) ∧ w = w' := by
  go_enter Try.func18, Try.ntmps18
  go_wp2
  go_ret
  exact ⟨rfl, rfl⟩
theorem PortAt.rowAt (h : PortAt w base pb wb mb hold lv rv ps xs n D s) : IntsAt (fun b => base ≤ b) w rv xs := IntsAt.of_own h.row
theorem waiting_c (h : PortAt w base pb wb mb hold lv rv ps xs n D s) (hx : xs.length ≤ 17592186044416) : Calls Try.prog 11 #[.pointer (some ⟨pb, 0, none⟩)] w fun e w' => ∃ v', e = .returned v' ∧ IntsAt (fun b => w.heap.size ≤ b) w' v' xs ∧ Below w.heap.size w w' := by
  obtain ⟨c0, c1, c2, c3, f2, f3, hpl⟩ := h.cells
  have hr := hid h.rowAt
  obtain ⟨ar, cr, rfl⟩ := own_shape h.row
  have h := hid h
  go_enter Try.func11, Try.ntmps11
  go_wp2_with (first | (go_at_call 36; (with_reducible refine (clone_c hr.out hx).mono ?_); rintro e w1 ⟨v', rfl, hi, hb⟩; obtain ⟨av, cv, rfl⟩ := hi.shape; have hi := hid hi; have hb := hid hb))
  go_ret
  exact ⟨_, rfl, hi.out, hb.out⟩
theorem index_c {ok : Nat → Prop} {v : Value} (h : IntsAt ok w v xs) (q : Int) :
    Calls Try.prog 49 #[v, .int .i64 q] w fun e w' => e = .returned (.int .i64 (idxT xs q)) ∧ w = w' := by
  obtain ⟨ao, cap, rfl⟩ := h.shape
  obtain ⟨-, hl, hm, hget⟩ := h.get
  have hget := hid hget
  clear h
  go_enter Try.func49, Try.ntmps49
  go_wp2
  go_loopg [8] xs.length (fun g i wr => w = wr ∧ ∃ k : Nat, k ≤ xs.length ∧ g = xs.length - k ∧ i = .int .i64 k ∧ q ∉ xs.take k)
  case atStart => exact ⟨rfl, 0, Nat.zero_le _, rfl, rfl, by simp⟩
  case round =>
    obtain ⟨rfl, k, hk, hgk, rfl, hnot⟩ := hrel
    by_cases hlt : k < xs.length
    · obtain ⟨g, o, rfl, -, hg, ck⟩ := hget.out k hlt
      by_cases he : xs[k] = q
      · have hi := hid (idxT_found hlt hnot he)
        rw [he] at ck
        clear he
        go_wp2
        go_ret
        exact ⟨by rw [hi.out] <;> rfl, rfl⟩
      · have hn := hid (not_take_succ hlt hnot he)
        have hq : (q == xs[k]) = false := by simpa using Ne.symm he
        replace he := hid he
        go_wp2
        go_roundg (xs.length - (k + 1))
        case rel => exact ⟨rfl, k + 1, by omega, rfl, by go_num, hn.out⟩
        case measure => omega
    · obtain rfl : k = xs.length := by omega
      rw [List.take_length] at hnot
      have hi := hid (idxT_none hnot)
      go_wp2
      go_ret
      exact ⟨by rw [hi.out] <;> rfl, rfl⟩
theorem idxT_ge (xs : List Int) (q : Int) : decide (0 ≤ idxT xs q) = decide (q ∈ xs) := by
  rcases idxT_split xs q with ⟨h, e⟩ | ⟨k, hk, _, h, e⟩
  · rw [e]; simp [h]
  · have : q ∈ xs := h ▸ List.getElem_mem hk
    rw [e]; simp [this]
theorem contains_c {ok : Nat → Prop} {v : Value} (h : IntsAt ok w v xs) (q : Int) :
    Calls Try.prog 40 #[v, .int .i64 q] w fun e w' => e = .returned (.bool (decide (q ∈ xs))) ∧ w = w' := by
  have he := hid (idxT_ge xs q)
  obtain ⟨ao, cap, rfl⟩ := h.shape
  go_enter Try.func40, Try.ntmps40
  go_wp2_with (first | (go_at_call 49; (with_reducible refine (index_c h q).mono ?_); rintro e w' ⟨rfl, rfl⟩))
  go_ret
  exact ⟨rbool (by rw [← he.out] <;> simp), rfl⟩
theorem waits_nil (w : World) (q : Int) : Calls Try.prog 19 #[.pointer none, .int .i64 q] w fun e w' => e = .returned (.bool false) ∧ w = w' := by
  go_enter Try.func19, Try.ntmps19
  go_wp2
  go_ret
  exact ⟨rfl, rfl⟩
theorem waits_c (h : PortAt w base pb wb mb hold lv rv ps xs n D s) (q : Int) : Calls Try.prog 19 #[.pointer (some ⟨pb, 0, none⟩), .int .i64 q] w fun e w' => e = .returned (.bool (decide (q ∈ xs))) ∧ w = w' := by
  obtain ⟨c0, c1, c2, c3, f2, f3, hpl⟩ := h.cells
  have hr := hid h.rowAt
  obtain ⟨ar, cr, rfl⟩ := own_shape h.row
  have h := hid h
  go_enter Try.func19, Try.ntmps19
  go_wp2_with (first | (go_at_call 40; (with_reducible refine (contains_c hr.out q).mono ?_); rintro e w' ⟨rfl, rfl⟩))
  go_ret
  exact ⟨rfl, rfl⟩

/-- What Put leaves: the port's parts, and its answer. -/
def putL (ps : List (Value × Msg)) (xs : List Int) (hold : Int) (p : Value × Msg) : List (Value × Msg) := if xs = [] ∧ (ps.length : Int) ≠ hold then ps ++ [p] else ps
theorem putRow_c (h : PortAt w base pb wb mb hold lv rv ps xs n D s) (p : Value × Msg) (hp : ∃ a n c, p.1 = .slice a n c) {x : Int} {r : List Int} (hx : xs = x :: r) (hxi : isInt x) :
    Calls Try.prog 12 #[.pointer (some ⟨pb, 0, none⟩), aggM p] w fun e w' => e = .returned (.tuple #[.int .i64 x, .bool true, .int .i64 0]) ∧ ∃ rv', PortAt w' base pb wb mb hold lv rv' ps (butT xs x) n (D.del (.int .i64 x)) s ∧ Chg (PMut pb wb mb lv rv) w w' ∧ (∀ c, rv'.ownBlock = some c → rv.ownBlock = some c) := by
  obtain ⟨sv, m⟩ := p
  obtain ⟨asv, nsv, csv, rfl⟩ := hp
  obtain ⟨g, cap, ex, rfl, hbg, hpg, hnc, hcm⟩ := own_split h.row (by rw [hx]; simp)
  have hb1 := (Below.refl w.heap.size w).alloc (Nat.le_refl _) (.cells #[.slice asv nsv csv, .int .i64 m.lane, .int .i64 m.stamp, .int .i64 m.late, .int .i64 m.seq] 27)
  have cx : w.cell? ⟨g, 0, none⟩ = some (.int .i64 x) := by rw [hpg.cell, hx]; rfl
  have hgl := hpg.lt
  obtain ⟨c0, c1, c2, c3, f2, f3, hpl⟩ := h.cells
  have hlen : (xs.length : Int) > 0 := by rw [hx]; simp only [List.length_cons]; omega
  have hlen' : 0 < xs.length := by rw [hx]; simp
  replace hx := hid hx
  unfold aggM
  simp only
  have hb2 := hb1.alloc (by simp) (.cells #[.int .i64 x] 3)
  have hP2 := h.below hb2
  have hz2 : IntsAt (fun b => ¬ PMut pb wb mb lv (.slice (some ⟨g, 0, none⟩) xs.length cap) b) ((w.alloc (.cells #[.slice asv nsv csv, .int .i64 m.lane, .int .i64 m.stamp, .int .i64 m.late, .int .i64 m.seq] 27)).alloc (.cells #[.int .i64 x] 3)) (.slice (some ⟨w.heap.size + 1, 0, none⟩) 1 1) [x] :=
    IntsAt.of_pts (xs := [x]) (ex := []) (T := 3) (heap_at _ _ _ (by simp)) (fun hm => by have := h.mut_lt hm; omega) (by simp) (by simp [maxLen])
  have h := hid h
  have hb1 := hid hb1
  have hb2 := hid hb2
  have hP2 := hid hP2
  have hz2 := hid hz2
  go_enter Try.func12, Try.ntmps12
  go_wp2_with (first | (go_at_call 37; (with_reducible refine (away_c hP2.out hz2.out (fun z hz => by simp at hz; subst hz; exact hxi)).mono ?_); rintro e w3 ⟨rfl, rv', hP3, hC3, hv3⟩; have hP3 := hid hP3; have hC3 := hid hC3; have hv3 := hid hv3))
  refine bodyPost_ret (v := .tuple #[.int .i64 x, .bool true, .int .i64 0]) (by simp [results, Try.results12, go_sem]) rfl ⟨rfl, rv', ?_, (Chg.of_below hb2.out).trans hC3.out (fun i hi => .inl hi), hv3.out⟩
  simpa using hP3.out
/-- There is no room. -/
theorem putFull_c (h : PortAt w base pb wb mb hold lv rv ps [] n D s) (p : Value × Msg) (hp : ∃ a n c, p.1 = .slice a n c) (hf : (ps.length : Int) = hold) :
    Calls Try.prog 12 #[.pointer (some ⟨pb, 0, none⟩), aggM p] w fun e w' => e = .returned (.tuple #[.int .i64 0, .bool false, .int .i64 10]) ∧ Below w.heap.size w w' := by
  obtain ⟨sv, m⟩ := p
  obtain ⟨asv, nsv, csv, rfl⟩ := hp
  obtain ⟨c0, c1, c2, c3, f2, f3, hpl⟩ := h.cells
  obtain ⟨al, cl, rfl⟩ := own_shape h.l
  obtain ⟨ar, cr, rfl⟩ := own_shape h.row
  subst hf
  simp only [List.length_nil] at *
  unfold aggM
  simp only
  have h := hid h
  go_enter Try.func12, Try.ntmps12
  go_wp2
  go_quiet (fail)
  go_wp2
  refine bodyPost_ret (v := .tuple #[.int .i64 0, .bool false, .int .i64 10]) (by simp [results, Try.results12, go_sem]) rfl ⟨rfl, ?_⟩
  exact ((Below.refl _ _).alloc (Nat.le_refl _) _).trans ⟨rfl, rfl, rfl, Nat.le_refl _, fun _ _ => rfl⟩
theorem drewN_below (B : Nat) (w : World) (k : Nat) : Below B w (w.drewN k) := ⟨rfl, rfl, rfl, Nat.le_refl _, fun _ _ => rfl⟩
/-- Behind append, and the messages' row stored. -/
theorem PortAt.putStep {w3 w5 : World} (h : PortAt w base pb wb mb hold lv rv ps xs n D s) (hb : Below w.heap.size w w3) {q : Value × Msg} (hq : IntsAt (fun b => w.heap.size ≤ b) w3 q.1 q.2.words) {lv' : Value} (hr : w5.ownsRow base 27 5 lv' (ps.length + 1) (flat encM ps ++ encM q)) (hg : w3.grownBy w5 lv.ownBlock) (hv : ∀ c, lv'.ownBlock = some c → lv.ownBlock = some c ∨ c = w3.heap.size) :
    PortAt (w5.setCell ⟨pb, 2, none⟩ lv') base pb wb mb hold lv' rv (ps ++ [q]) xs n D s ∧ Chg (PMut pb wb mb lv rv) w (w5.setCell ⟨pb, 2, none⟩ lv') ∧ IntsAt (fun b => w.heap.size ≤ b) (w5.setCell ⟨pb, 2, none⟩ lv') q.1 q.2.words := by
  obtain ⟨a1, a2, a3, a4, a5, a6⟩ := h.apart
  have e5 : ∀ b, b < w.heap.size → lv.ownBlock ≠ some b → w5.heap[b]? = w.heap[b]? := fun b hlt hne => (hg.block b (Nat.lt_of_lt_of_le hlt hb.size) (fun e => hne e.symm)).trans (hb.block b hlt)
  have hpl := h.at_.lt
  have hp5 : pts w5 pb [.pointer (some ⟨wb, 0, none⟩), .int .i64 hold, lv, rv] 72 := h.at_.of (e5 pb hpl (fun h => (a4 pb h).1 rfl))
  have hC : Chg (PMut pb wb mb lv rv) w w5 := ⟨hg.os.trans hb.os, hg.tape.trans hb.tape, hg.output.trans hb.output, Nat.le_trans hb.size hg.size, fun b hlt hn => e5 b hlt (fun e => hn (.inr (.inr (.inr (.inl e)))))⟩
  have hlv : ∀ c, lv'.ownBlock = some c → c ≠ pb := fun c hc => by
    rcases hv c hc with h1 | h1
    · exact (a4 c h1).1
    · have := hb.size; omega
  have hmut : ∀ b, b < w.heap.size → PMut pb wb mb lv' rv b → PMut pb wb mb lv rv b := fun b hlt hm => by
    rcases hm with hm | hm | hm | hm | hm
    · exact .inl hm
    · exact .inr (.inl hm)
    · exact .inr (.inr (.inl hm))
    · rcases hv b hm with h1 | h1
      · exact .inr (.inr (.inr (.inl h1)))
      · have := hb.size; omega
    · exact .inr (.inr (.inr (.inr hm)))
  have h5 : IntsAt (fun b => w.heap.size ≤ b ∧ b < w3.heap.size) w3 q.1 q.2.words := hq.mono (fun b h1 h2 => ⟨h1, h2⟩)
  have h6 := h5.kept (w' := w5.setCell ⟨pb, 2, none⟩ lv') (by simpa using hg.size) (fun b h1 h2 => by
    rw [Below.heap_setCell _ _ _ _ (fun e => by have e : b = pb := e; omega)]
    exact hg.block b h2 (fun e => by have := h.mut_lt (b := b) (.inr (.inr (.inr (.inl e.symm)))); omega))
  refine ⟨⟨by simpa using hp5.set 2 lv', ?_, ?_, ?_, ?_, h.ge⟩, hC.setB (.inl rfl), h6.mono (fun b h _ => h.1)⟩
  · refine (h.wh.kept (w' := w5) (e5 wb h.wh.lt.1 (fun h => (a4 wb h).2.1 rfl)) (e5 mb h.wh.lt.2 (fun h => (a4 mb h).2.2 rfl))).kept (Below.heap_setCell _ _ _ _ (Ne.symm a1)) (Below.heap_setCell _ _ _ _ (Ne.symm a2))
  · have h1 : w5.ownsRow base 27 5 lv' (ps ++ [q]).length (flat encM (ps ++ [q])) := by rw [flat_append, flat_single, List.length_append]; exact hr
    exact own_of h1 (fun b e => Below.heap_setCell _ _ _ _ (hlv b e))
  · exact own_of (own_of h.row (fun b e => e5 b (h.mut_lt (.inr (.inr (.inr (.inr e))))) (fun e2 => a6 b e2 e))) (fun b e => Below.heap_setCell _ _ _ _ (a5 b e).1)
  · refine WordsIn.snoc ?_ ?_
    · refine (h.words.kept (w' := w5.setCell ⟨pb, 2, none⟩ lv') (by simpa using hC.size) (fun b hb' hlt => ?_)).mono' (fun b hb' hlt hm => hb' (hmut b hlt hm)) h.words
      rw [Below.heap_setCell _ _ _ _ (fun e => hb' (.inl e))]
      exact hC.block b hlt hb'
    · refine h6.mono (fun b h1 _ hm => ?_)
      rcases hm with hm | hm | hm | hm | hm
      · omega
      · have := h.wh.lt.1; omega
      · have := h.wh.lt.2; omega
      · rcases hv b hm with h2 | h2
        · have := h.mut_lt (b := b) (.inr (.inr (.inr (.inl h2)))); omega
        · omega
      · have := h.mut_lt (b := b) (.inr (.inr (.inr (.inr hm)))); omega
/-- It is put in. -/
theorem putAdd_c (h : PortAt w base pb wb mb hold lv rv ps [] n D s) (p : Value × Msg) {okp : Nat → Prop} (hp : IntsAt okp w p.1 p.2.words) (hpl : p.2.words.length ≤ 17592186044416) (hf : (ps.length : Int) ≠ hold) (hsm : ps.length < 1000000) :
    Calls Try.prog 12 #[.pointer (some ⟨pb, 0, none⟩), aggM p] w fun e w' => e = .returned (.tuple #[.int .i64 0, .bool false, .int .i64 0]) ∧ ∃ lv' sv', PortAt w' base pb wb mb hold lv' rv (ps ++ [(sv', p.2)]) [] n D s ∧ Chg (PMut pb wb mb lv rv) w w' ∧ (∀ c, lv'.ownBlock = some c → lv.ownBlock = some c ∨ w.heap.size ≤ c) ∧ IntsAt (fun b => w.heap.size ≤ b) w' sv' p.2.words := by
  obtain ⟨sv, m⟩ := p
  simp only at hp hpl
  obtain ⟨asv, csv, rfl⟩ := hp.shape
  obtain ⟨c0, c1, c2, c3, f2, f3, hpl'⟩ := h.cells
  obtain ⟨al, cl, rfl⟩ := own_shape h.l
  obtain ⟨ar, cr, rfl⟩ := own_shape h.row
  simp only [List.length_nil] at *
  unfold aggM
  simp only
  have hf1 : ((ps.length : Int) == hold) = false := by simpa using hf
  have hb1 := (Below.refl w.heap.size w).alloc (Nat.le_refl _) (.cells #[.slice asv m.words.length csv, .int .i64 m.lane, .int .i64 m.stamp, .int .i64 m.late, .int .i64 m.seq] 27)
  have hq1 : pts (w.alloc (.cells #[.slice asv m.words.length csv, .int .i64 m.lane, .int .i64 m.stamp, .int .i64 m.late, .int .i64 m.seq] 27)) w.heap.size [.slice asv m.words.length csv, .int .i64 m.lane, .int .i64 m.stamp, .int .i64 m.late, .int .i64 m.seq] 27 := pts.newA w _ _
  have hP1 := h.below hb1
  have hi1 := hp.below hb1
  have h := hid h
  replace hf := hid hf
  go_enter Try.func12, Try.ntmps12
  go_wp2
  go_quiet (fail)
  go_upto_region 9 with fail
  generalize hWd : World.drewN _ _ = W
  have hPW : PortAt W base pb wb mb hold (.slice al ps.length cl) (.slice ar 0 cr) ps [] n D s := by rw [← hWd]; exact hP1.below (drewN_below _ _ _)
  have hqW : pts W w.heap.size [.slice asv m.words.length csv, .int .i64 m.lane, .int .i64 m.stamp, .int .i64 m.late, .int .i64 m.seq] 27 := by rw [← hWd]; exact hq1.below (drewN_below _ _ _)
  have hiW : IntsAt okp W.drew (.slice asv m.words.length csv) m.words := by rw [← hWd]; exact (hi1.below (drewN_below _ _ _)).below (Below.refl _ _).drew
  have hbW := hid (show Below w.heap.size w W by rw [← hWd]; exact hb1.trans (drewN_below _ _ _))
  clear hWd hb1 hq1 hP1 hi1 c0 c1 c2 c3 f2 f3 hpl'
  have hcl : Calls Try.prog 38 #[.agg #[.slice asv m.words.length csv, .int .i64 m.lane, .int .i64 m.stamp, .int .i64 m.late, .int .i64 m.seq]] W.drew fun e w' => ∃ v', e = .returned (.agg #[v', .int .i64 m.lane, .int .i64 m.stamp, .int .i64 m.late, .int .i64 m.seq]) ∧ IntsAt (fun b => W.drew.heap.size ≤ b) w' v' m.words ∧ Below W.drew.heap.size W.drew w' := mclone_c (p := (.slice asv m.words.length csv, m)) hiW hpl
  obtain ⟨c0, c1, c2, c3, f2, f3, hpl'⟩ := hPW.cells
  have m0 := hqW.cell 0
  have m1 := hqW.cell 1
  have m2 := hqW.cell 2
  have m3 := hqW.cell 3
  have m4 := hqW.cell 4
  simp only [List.getElem?_cons_zero, List.getElem?_cons_succ] at m0 m1 m2 m3 m4
  have hPd : PortAt W.drew base pb wb mb hold (.slice al ps.length cl) (.slice ar 0 cr) ps [] n D s := hPW.below (Below.refl _ _).drew
  have hPW := hid hPW
  have hPd := hid hPd
  have hcl := hid hcl
  have hbs := hid (show base ≤ W.heap.size from Nat.le_trans hPW.out.ge.1 (Nat.le_of_lt hpl'))
  clear hqW hiW
  go_region_law (first | (refine step_push rfl (.tmp 44) (.tmp 47) 44 rfl elMsg (v := .slice al ps.length cl) (by simp [Act.eval, Act.put]) (hl2.out.alloc _) (Nat.le_trans hbs.out (Nat.le_trans hz2.out (by simp))) (by simp [Act.eval, Act.put]) (g := w2.heap.size) (m := 1) (c := 1) (news := encM (.slice av m.words.length cv, m)) rfl (heap_at _ _ _ rfl) (by simp [encM, Value.oneCell']) (by omega) (by unfold maxLen; omega) (by omega) ?_; intro g' cap' w5 hown5 hg5 hor5 hlt5; have hS := hid (PortAt.putStep (q := (.slice av m.words.length cv, m)) hPd.out (hb2.out.alloc hz2.out (.cells #[.slice av m.words.length cv, .int .i64 m.lane, .int .i64 m.stamp, .int .i64 m.late, .int .i64 m.seq] 27)) (hi2.out.below ((Below.refl _ _).alloc (Nat.le_refl _) _)) hown5 hg5 (fun c hc => by simp only [Value.ownBlock, Option.some.injEq] at hc; subst hc; exact hor5)); have hold5 := hid (show ∀ c, (Value.slice (some ⟨g', 0, none⟩) (ps.length + 1) cap').ownBlock = some c → (Value.slice al ps.length cl).ownBlock = some c ∨ w.heap.size ≤ c from fun c hc => by simp only [Value.ownBlock, Option.some.injEq] at hc; subst hc; rcases hor5 with e | e; exact .inl e; exact .inr (by have h1 := hz2.out; have h2 := hbW.out.size; have h3 : W.heap.size ≤ w2.heap.size := h1; simp at e; omega)); have hp5 := pts.of (hp2.out.alloc _) (hg5.block pb (by simp; have := hp2.out.lt; omega) (fun e => (hPW.out.apart.2.2.2.1 pb e.symm).1 rfl)); have s2 := hp5.cell 2; have sf := hp5.frozen 2; have sl := hp5.lt; simp only [List.getElem?_cons_zero, List.getElem?_cons_succ] at s2; clear hown5 hg5 hp5) | (go_simp; go_at_call 38; (with_reducible refine hcl.out.mono ?_); rintro e w2 ⟨v', rfl, hi2, hb2⟩; obtain ⟨av, cv, rfl⟩ := hi2.shape; have hp2 := hPd.out.at_.below hb2; have c2' := hp2.cell 2; have cl' := hp2.lt; simp only [List.getElem?_cons_zero, List.getElem?_cons_succ] at c2'; have hl2 := hid ((hPd.out.below hb2).l); have hz2 := hid hb2.size; have hi2 := hid hi2; have hb2 := hid hb2; have hp2 := hid hp2))
  all_goals go_wp2
  all_goals refine bodyPost_ret (v := .tuple #[.int .i64 0, .bool false, .int .i64 0]) (by simp [results, Try.results12, go_sem]) rfl ⟨rfl, _, _, hS.out.1, (Chg.of_below hbW.out).trans (Chg.ofDrew hS.out.2.1) (fun i hi => .inl hi), hold5.out, hS.out.2.2.mono (fun b h _ => Nat.le_trans hbW.out.size h)⟩
end
end Go.Proofs.Ytnlmkllhmldgiaa.Qu
