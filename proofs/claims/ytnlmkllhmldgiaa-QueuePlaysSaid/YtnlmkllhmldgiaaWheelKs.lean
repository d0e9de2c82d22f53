/- DERIVED. The walks over slices.SortedFunc at a wheel's keys, wheel.Keys. No statement is proved here. -/
import Derived.Test.YtnlmkllhmldgiaaWheelK
import Derived.Test.YtnlmkllhmldgiaaShelfWheel
import Derived.Shelf.SlSortCmp.NoneTotal
namespace Go.Proofs.Ytnlmkllhmldgiaa.Wh
set_option linter.unusedVariables false
set_option linter.unusedSimpArgs false
open Go.RowKit Go.Maps Go.Sort Go.Shelf Go.Proofs.Ytnlmkllhmldgiaa.K Go.Proofs.Ytnlmkllhmldgiaa.Lb Go.Proofs.Ytnlmkllhmldgiaa.Sh
theorem isInt_of_wf {x : Int} (h : (Lit.int .i64 x).wf = true) : isInt x := by
  simp only [Lit.wf, IntKind.min, IntKind.max, IntKind.signed, IntKind.bits, Bool.and_eq_true, decide_eq_true_eq, if_true] at h
  unfold isInt; omega
/-- A list of ints, as ints that an int may be. -/
theorem toN : ∀ (ss : List Int), (∀ x ∈ ss, isInt x) → ∃ ds : List IntN, ds.map Subtype.val = ss
  | [], _ => ⟨[], rfl⟩
  | x :: t, h => by
    obtain ⟨ds, hd⟩ := toN t (fun y hy => h y (List.mem_cons_of_mem _ hy))
    exact ⟨⟨x, h x List.mem_cons_self⟩ :: ds, by simp [hd]⟩
theorem sortWorld_other {α : Type} [Inhabited α] (enc : α → Value) (W : World) (blk off n : Nat) (dk : Array α) (os : Array Obj) {k : Nat} (h1 : k ≠ blk) (h2 : k < W.heap.size) : (sortWorld enc W blk off n dk os).heap[k]? = W.heap[k]? := by
  unfold sortWorld
  rw [heap_grow_old _ _ (by rw [size_putRow]; exact h2)]
  simp only [putRow, mapBlock, Array.getElem?_modify, ahead]
  rw [if_neg (Ne.symm h1)]
  rfl
theorem sortWorld_below {α : Type} [Inhabited α] (enc : α → Value) (W : World) (blk off n : Nat) (dk : Array α) (os : Array Obj) {B : Nat} (h1 : B ≤ blk) (h2 : B ≤ W.heap.size) : Below B W (sortWorld enc W blk off n dk os) := by
  refine ⟨rfl, rfl, rfl, ?_, fun k hk => sortWorld_other enc W blk off n dk os (by omega) (by omega)⟩
  unfold sortWorld grow
  simp only [Array.size_append]
  rw [size_putRow]
  show W.heap.size ≤ W.heap.size + _
  omega
theorem sortNil_c (w : World) (g : Nat) (cb : Array Value) : Calls Try.prog 57 #[.slice none 0 0, .func (.func g) #[] cb] w fun e w' => e = .returned (.tuple #[]) ∧ w = w' :=
  (AnyF.slices_SortFunc_none (ρ := sortA_ren) { sortA with } none 0 _ w).mono fun _ _ ⟨he, hw⟩ => ⟨he, hw.symm⟩
/-- What Keys tells: the keys, each once, in the row by which they are sorted. -/
def KeysPost (w : World) (D : DataW Unit) (e : Ending) (w' : World) : Prop :=
  ∃ v ss, e = .returned v ∧ ss.Perm (intKeys D) ∧ ss.Pairwise (fun x y => ¬ ltW D y x) ∧ IntsAt (fun b => w.heap.size ≤ b) w' v ss ∧ Below w.heap.size w w'
theorem sortedF_c {w : World} {wb mb n bx bm : Nat} {D : DataW Unit} {s : Int} (h : WheelAt w wb mb n D s) (hn : n ≤ 1000000) (hbx : bx < w.heap.size) (hc : w.cell? ⟨bx, 0, none⟩ = some (.pointer (some ⟨wb, 0, none⟩))) (hbm : bm < w.heap.size) (hm : w.cell? ⟨bm, 0, none⟩ = some (.map (some mb))) :
    Calls Try.prog 51 #[.func (.func 58) #[] #[.pointer (some ⟨bm, 0, none⟩)], .func (.func 53) #[] #[.pointer (some ⟨bx, 0, none⟩)]] w (KeysPost w D) := by
  have hsz := h.map.size_le
  have hseq : SeqGives Fence.wide 2 Try.prog 58 #[.pointer (some ⟨bm, 0, none⟩)] encZ (fun ss => ss.Perm (intKeys D)) (Maps.size D) w :=
    AnyZI.keys_gives (ρ := keysA_ren) { keysA with } Fence.wide _ trivial rfl (by omega) bm mb n D w hbm hm h.map
  have cC : Calls Try.prog 56 #[.func (.func 58) #[] #[.pointer (some ⟨bm, 0, none⟩)]] w fun e w' => ∃ (v : Value) (ss : List Int), e = .returned v ∧ ss.Perm (intKeys D) ∧ w'.ownsRow w.heap.size 3 1 v ss.length (ss.map encZ) ∧ (v = .slice none 0 0 ↔ ss = []) ∧ Below w.heap.size w w' :=
    callsIn_wide.1 (AnyZI.collect_in (ρ := collectA_ren) collectA Fence.wide 4 trivial trivial rfl (by omega) 58 #[.pointer (some ⟨bm, 0, none⟩)] trivial (enters_of Try.func58 (by kernel_rfl) rfl) _ _ (by unfold maxLen; omega) (by omega) w hseq)
  have hwf := fun (ss : List Int) (hp : ss.Perm (intKeys D)) (x : Int) (hx : x ∈ ss) => isInt_of_wf (intKeys_wf h.map Try.underlying3 x (hp.mem_iff.1 hx))
  have hW := hid h
  have hcb := hid hc
  have hlt := hid h.lt
  clear hseq hc hm h
  go_enter Try.func51, Try.ntmps51
  go_upto_region 2 with (first | (go_at_call 56; (with_reducible refine (cC).mono ?_); rintro e w1 ⟨v, ss, rfl, hp, hown, hnil, hb⟩; replace hown := hid hown; replace hb := hid hb; replace hp := hid hp))
  clear cC
  have hl := hp.out.length_eq
  have hil : (intKeys D).length ≤ n := by
    obtain ⟨es, rfl, -⟩ := hW.out.map.tidy lawI
    have e : (intKeys (.map es)).length = Maps.size (.map es : DataW Unit) := by show (es.map _).length = es.length; simp
    rw [e]; exact hsz
  have hl6 : ss.length ≤ 1000000 := by omega
  clear hl hil
  rcases hown.out.2 with ⟨rfl, hz⟩ | ⟨gb, cap, cur, rfl, hgb, hh, hnc, hcm, hcs, htk⟩
  · have e0 : ss = [] := List.eq_nil_of_length_eq_zero hz
    subst e0
    have cN := sortNil_c w1 (53) #[.pointer (some ⟨bx, 0, none⟩)]
    go_wp2_with (first | (go_at_call 57; (with_reducible refine (cN).mono ?_); rintro e w' ⟨rfl, rfl⟩))
    go_ret
    exact ⟨_, [], rfl, hp.out, List.Pairwise.nil, IntsAt.nil _ _, hb.out⟩
  · obtain ⟨ds, hds⟩ := toN ss (hwf ss hp.out)
    have hlen : ds.length = ss.length := by rw [← hds, List.length_map]
    have hcell : ∀ j, j < ss.length → w1.cell? ⟨gb, 0 + j, none⟩ = (ss.map encZ)[j]? ∧ w1.frozen? ⟨gb, 0 + j, none⟩ = false := by
      intro j hj
      refine ⟨?_, by simp [World.frozen?, hh]⟩
      rw [← htk, List.getElem?_take_of_lt (by omega), Array.getElem?_toList]
      simp [World.cell?, hh]
    have hH : Holds encN w1 gb 0 ds.toArray := by
      intro j hj
      have hj' : j < ds.length := by simpa using hj
      refine ⟨?_, (hcell j (by omega)).2⟩
      rw [(hcell j (by omega)).1, ← hds]
      simp [encN, hj', getElem!_pos]
    have hgl : gb < w1.heap.size := (Array.getElem?_eq_some_iff.1 hh).1
    have hgw : wb ≠ gb ∧ mb ≠ gb ∧ bx ≠ gb := by have := hlt.out; omega
    have hx1 : wb < w1.heap.size ∧ mb < w1.heap.size := ⟨Nat.lt_of_lt_of_le hlt.out.1 hb.out.size, Nat.lt_of_lt_of_le hlt.out.2 hb.out.size⟩
    have hbx1 : bx < w1.heap.size := Nat.lt_of_lt_of_le hbx hb.out.size
    have hW1 := hW.out.below hb.out
    have hc1 := (hb.out.cell (p := ⟨bx, 0, none⟩) hbx).trans hcb.out
    have hcmp : CmpLays1 Try.prog 53 #[.pointer (some ⟨bx, 0, none⟩)] encN (cfN D) gb 0 ds.toArray.size w1 := by
      intro m os dk _ x y
      have hsz1 : ∀ k, k < w1.heap.size → k < (sortWorld encN w1 gb 0 m dk os).heap.size := fun k hk => Nat.lt_of_lt_of_le hk (sortWorld_below encN w1 gb 0 m dk os (Nat.zero_le _) (Nat.zero_le _)).size
      have hw2 : WheelAt (sortWorld encN w1 gb 0 m dk os) wb mb n D s := hW1.kept (sortWorld_other _ _ _ _ _ _ _ hgw.1 hx1.1) (sortWorld_other _ _ _ _ _ _ _ hgw.2.1 hx1.2)
      have hc2 : (sortWorld encN w1 gb 0 m dk os).cell? ⟨bx, 0, none⟩ = some (.pointer (some ⟨wb, 0, none⟩)) := (World.cell?_of_block (sortWorld_other _ _ _ _ _ _ _ hgw.2.2 hbx1)).trans hc1
      exact (keys1_c hw2 (hsz1 _ hbx1) hc2 x.2 y.2).mono fun e w' ⟨he, hg⟩ => ⟨he, hg⟩
    have cS : Calls Try.prog 57 #[.slice (some ⟨gb, 0, none⟩) ds.toArray.size cap, .func (.func 53) #[] #[.pointer (some ⟨bx, 0, none⟩)]] w1 fun e w' => e = .returned (.tuple #[]) ∧ ∃ d' n os, PermIn 0 ds.toArray.size ds.toArray d' ∧ SortedIn (ltOf (cfN D)) 0 ds.toArray.size d' ∧ w' = sortWorld encN w1 gb 0 n d' os :=
      Any.slices_SortFunc (ρ := sortA_ren) sortA encN (fun _ => rfl) (cfN D) (swoN D) 53 #[.pointer (some ⟨bx, 0, none⟩)] gb 0 cap ds.toArray w1 (enters_of Try.func53 (by kernel_rfl) rfl) hcmp hH hgl (by simp; omega)
    have hsz : ds.toArray.size = ss.length := by simpa using hlen
    rw [hsz] at cS
    have hH' := hid hH
    have hds' := hid hds
    clear hcmp hcell hH htk hds
    go_upto_region 3 with (first | (go_at_call 57; (with_reducible refine (cS).mono ?_); rintro e w2 ⟨rfl, d', n, os, hperm, hsort, rfl⟩; replace hperm := hid hperm; replace hsort := hid hsort))
    have hb2 := hid (hb.out.trans (sortWorld_below encN w1 gb 0 n d' os hgb hb.out.size))
    have hds2 : d'.size = ss.length := by rw [hperm.out.1]; exact hsz
    have hH2 := hid (holds_sortWorld encN w1 gb 0 n ds.toArray d' os hgl hH'.out (by rw [hds2, hsz]))
    have hgl2 := hid (lt_sortWorld encN w1 gb 0 n d' os hgl)
    clear cS hW1
    generalize sortWorld encN w1 gb 0 n d' os = w2 at hb2 hH2 hgl2 ⊢
    have hpl : d'.toList.Perm ds := by
      have h3 := hperm.out.2.2
      have e3 : d'.extract 0 ss.length = d' := by rw [← hds2]; simp
      have e4 : ds.toArray.extract 0 ss.length = ds.toArray := by rw [← hsz]; simp
      rw [e3, e4] at h3
      simpa using h3
    have hfin := hid (show KeysPost w D (.returned (.slice (some ⟨gb, 0, none⟩) ss.length cap)) w2 from by
      refine ⟨_, d'.toList.map Subtype.val, rfl, ?_, ?_, ?_, hb2.out⟩
      · have := hpl.map Subtype.val
        rw [hds'.out] at this
        exact this.trans hp.out
      · rw [List.pairwise_map, List.pairwise_iff_getElem]
        intro i j hi hj hij hlt'
        have h5 := hsort.out i j (Nat.zero_le _) hij (by simpa [hds2] using hj)
        have hi2 : i < d'.size := by simpa using hi
        have hj2 : j < d'.size := by simpa using hj
        rw [getElem!_pos d' i hi2, getElem!_pos d' j hj2] at h5
        have h6 : ltOf (cfN D) d'[j] d'[i] = true := (cfW_lt D d'[j].1 d'[i].1).2 (by simpa using hlt')
        rw [h6] at h5; cases h5
      · have el : (d'.toList.map Subtype.val).length = ss.length := by simp [hds2]
        refine ⟨some ⟨gb, 0, none⟩, cap, by rw [el], ⟨by rw [el]; exact hnc, hcm, fun h => (by cases h)⟩, .inr ⟨gb, 0, rfl, hgb, hgl2.out, fun i hi => ?_⟩⟩
        have hi2 : i < d'.size := by rw [el] at hi; omega
        rw [(hH2.out i hi2).1, getElem!_pos d' i hi2]
        simp [encN])
    go_wp2
    go_ret
    exact hfin.out
theorem keys_nil (w : World) : Calls Try.prog 47 #[.pointer none] w fun e w' => e = .returned (.slice none 0 0) ∧ Below w.heap.size w w' := by
  go_enter Try.func47, Try.ntmps47
  go_wp2
  go_ret
  exact ⟨rfl, (Below.refl _ _).alloc (Nat.le_refl _) _⟩
theorem keysW_c {w : World} {wb mb n : Nat} {D : DataW Unit} {s : Int} (h : WheelAt w wb mb n D s) (hn : n ≤ 1000000) : Calls Try.prog 47 #[.pointer (some ⟨wb, 0, none⟩)] w (KeysPost w D) := by
  have hb0 := (Below.refl w.heap.size w).alloc (Nat.le_refl _) (.cells #[.pointer (some ⟨wb, 0, none⟩)] 69)
  have h1 := h.below hb0
  have hp := (pts.newA w #[.pointer (some ⟨wb, 0, none⟩)] 69)
  have cK : ∀ mv W, Calls Try.prog 52 #[.map mv] W fun e w' => e = .returned (.func (.func 58) #[] #[.pointer (some ⟨W.heap.size, 0, none⟩)]) ∧ w' = W.alloc (.cells #[.map mv] 83) :=
    fun mv W => callsIn_wide.1 (AnyZI.keys_in (ρ := keysA_ren) keysA Fence.wide 5 trivial rfl mv W)
  have c0 := h1.at_.cell 0
  have hl := h1.lt
  have x0 := hp.cell 0
  simp only [List.getElem?_cons_zero] at c0 x0
  have hW := hid h1
  have hbh := hid hb0
  have hph := hid hp
  clear h h1 hb0 hp
  generalize hw1 : w.alloc (.cells #[.pointer (some ⟨wb, 0, none⟩)] 69) = w1 at hW hbh hph c0 hl x0
  have hxl : w.heap.size < w1.heap.size := hph.out.lt
  go_enter Try.func47, Try.ntmps47
  go_wp2_with (first | (go_at_call 52; (with_reducible refine (cK _ _).mono ?_); rintro e w' ⟨rfl, rfl⟩) | (go_at_call 51; (with_reducible refine (sortedF_c ((hW.out.below ((Below.refl w1.heap.size w1).alloc (Nat.le_refl _) _))) hn (by simp; omega) (hph.out.alloc _ |>.cell 0) (by simp) (pts.newA w1 #[.map (some mb)] 83 |>.cell 0)).mono ?_); rintro e w' ⟨v, ss, rfl, h1, h2, h3, h4⟩; have hf := hid (show KeysPost w D (.returned v) w' from ⟨v, ss, rfl, h1, h2, h3.mono (fun b hb _ => by simp at hb; omega), Below.next hbh.out (Below.next ((Below.refl w1.heap.size w1).alloc (Nat.le_refl _) _) h4 (by simp)) (by omega)⟩); obtain ⟨va, vc, rfl⟩ := h3.shape; clear h1 h2 h3 h4))
  go_ret
  exact hf.out
end Go.Proofs.Ytnlmkllhmldgiaa.Wh
