/- DERIVED. The walk over slices.Delete at a port's messages: the first one is struck. -/
import Derived.Test.YtnlmkllhmldgiaaQueueB
import Derived.Deep.RegionLaw
namespace Go.Proofs.Ytnlmkllhmldgiaa.Qu
set_option linter.unusedVariables false
set_option linter.unusedSimpArgs false
open Go.RowKit Go.Maps Go.Proofs.Ytnlmkllhmldgiaa.K Go.Proofs.Ytnlmkllhmldgiaa.Lb Go.Proofs.Ytnlmkllhmldgiaa.Wh
/-- A message that is nothing: its cells. -/
def zc5 : List Value := [.slice none 0 0, .int .i64 0, .int .i64 0, .int .i64 0, .int .i64 0]
theorem zc5_len : zc5.length = 5 := rfl
theorem zc5_one : ∀ v ∈ zc5, v.oneCell' = true := by simp [zc5, Value.oneCell']
theorem zc5_zero : (Builtin.zeroCells (Value.agg #[.slice none 0 0, .int .i64 0, .int .i64 0, .int .i64 0, .int .i64 0]).cells 1).toList = zc5 := by kernel_rfl
theorem elMsg' : ElemOk Try.prog 44 27 5 56 := .mk' (z := .agg #[.slice none 0 0, .int .i64 0, .int .i64 0, .int .i64 0, .int .i64 0]) Try.underlying44 (by kernel_rfl) rfl (by decide)
theorem pts.setCells {b : Nat} {T : TypeId} : ∀ (news : List Value) (o : Nat) (w : World) (cs : List Value), pts w b cs T → o + news.length ≤ cs.length → pts (w.setCells b o news) b (cs.take o ++ news ++ cs.drop (o + news.length)) T
  | [], o, w, cs, h, _ => by simpa [World.setCells] using h
  | v :: r, o, w, cs, h, hf => by
    simp only [List.length_cons] at hf
    have h1 := pts.setCells r (o + 1) (w.setCell ⟨b, o, none⟩ v) (cs.set o v) (h.set o v) (by simp; omega)
    have e : (cs.set o v).take (o + 1) ++ r ++ (cs.set o v).drop (o + 1 + r.length) = cs.take o ++ (v :: r) ++ cs.drop (o + (v :: r).length) := by
      rw [List.take_succ_eq_append_getElem (by simp; omega), List.take_set, List.set_eq_of_length_le (by simp; omega), List.drop_set_of_lt (by omega)]
      simp only [List.getElem_set_self, List.append_assoc, List.cons_append, List.nil_append, List.length_cons]
      congr 3
      congr 1
      omega
    rw [← e]
    exact h1
theorem Chg.setCells {M : Nat → Prop} {b : Nat} : ∀ (news : List Value) (o : Nat) (a w : World), Chg M a w → M b → Chg M a (w.setCells b o news)
  | [], _, _, _, h, _ => h
  | v :: r, o, a, w, h, hb => Chg.setCells r (o + 1) a _ (h.setB hb) hb
theorem zeroMsg (w : World) : (zeroValue 27).run Try.prog w = .ok (.agg #[.slice none 0 0, .int .i64 0, .int .i64 0, .int .i64 0, .int .i64 0]) w := by kernel_rfl
def DelMPost (w : World) (base : Nat) (v : Value) (r : List (Value × Msg)) (e : Ending) (w' : World) : Prop :=
  ∃ v', e = .returned v' ∧ w'.ownsRow base 27 5 v' r.length (flat encM r) ∧ Chg (fun c => v.ownBlock = some c) w w' ∧ (∀ c, v'.ownBlock = some c → v.ownBlock = some c)
set_option maxHeartbeats 1000000 in
theorem deleteM_c {w : World} {base : Nat} {v : Value} {p : Value × Msg} {r : List (Value × Msg)} (hown : w.ownsRow base 27 5 v (r.length + 1) (flat encM (p :: r))) (h1 : ∀ u ∈ flat encM r, u.oneCell' = true) :
    Calls Try.prog 33 #[v, .int .i64 0, .int .i64 1] w (DelMPost w base v r) := by
  obtain ⟨g, cap, ex, rfl, hbg, hp, hnc, hcm⟩ := own_split hown (by omega)
  have hsz : (flat encM (p :: r) ++ ex).length = cap * 5 := by
    rcases hown.2 with ⟨h, _⟩ | ⟨g', cap', cur, h1, _, hh, _, _, hcs, _⟩
    · cases h
    · simp only [Value.slice.injEq, Option.some.injEq, Addr.mk.injEq] at h1
      obtain ⟨⟨rfl, _, _⟩, _, rfl⟩ := h1
      unfold pts at hp
      rw [hp] at hh
      simp only [Option.some.injEq, Obj.cells.injEq] at hh
      rw [← hh.1] at hcs
      simpa using hcs
  have hfl : (flat encM r).length = r.length * 5 := flat_length encM_len r
  have hpd : pts w.drew g (flat encM (p :: r) ++ ex) 27 := hp.drew
  have hnews : ∀ j u, (flat encM r)[j]? = some u → w.drew.cell? ((⟨g, 5, none⟩ : Addr).add j) = some u := fun j u hu => by
    have e1 : (⟨g, 5, none⟩ : Addr).add j = ⟨g, 5 + j, none⟩ := by unfold Addr.add; split <;> simp_all
    rw [e1, hpd.cell, flat_cons, List.append_assoc, List.getElem?_append_right (by simp [encM]), show 5 + j - (encM p).length = j by simp [encM], List.getElem?_append_left (List.getElem?_eq_some_iff.1 hu).1]
    exact hu
  have hspare : ∀ j, j < (flat encM r).length → (w.drew.cell? ⟨g, 0 + 0 * 5 + j, none⟩).isSome = true ∧ w.drew.frozen? ⟨g, 0 + 0 * 5 + j, none⟩ = false := fun j hj => by
    refine ⟨?_, hpd.frozen _⟩
    rw [hpd.cell, List.getElem?_eq_getElem (by rw [hsz]; omega)]; rfl
  have hp2 := pts.setCells (flat encM r) (0 + 0 * 5) w.drew _ hpd (by rw [hsz]; omega)
  have hc2 := Chg.setCells (M := fun c => (Value.slice (some ⟨g, 0, none⟩) (r.length + 1) cap).ownBlock = some c) (flat encM r) (0 + 0 * 5) w w.drew (Chg.refl _ _).drew rfl
  generalize hWe : w.drew.setCells g (0 + 0 * 5) (flat encM r) = W2 at hp2 hc2
  simp only [Nat.zero_mul, Nat.add_zero, List.take_zero, List.nil_append, Nat.zero_add] at hp2
  have htl : ((flat encM (p :: r) ++ ex).drop (flat encM r).length).length = cap * 5 - r.length * 5 := by rw [List.length_drop, hsz, hfl]
  generalize (flat encM (p :: r) ++ ex).drop (flat encM r).length = tl at hp2 htl
  have hcl : ∀ ty, (Builtin.clear_ #[44] ty #[.slice (some ⟨g, r.length * 5, none⟩) 1 (cap - r.length)]).run Try.prog W2 = .ok (.tuple #[]) (W2.setRow g ((flat encM r ++ tl).take (r.length * 5) ++ zc5 ++ (flat encM r ++ tl).drop (r.length * 5 + 5)).toArray) :=
    fun ty => run_clear_row (P := Try.prog) (t := 44) (ty := ty) (n := 1) (c := cap - r.length) (zs := zc5) Try.underlying44 zeroMsg hp2 (o := r.length * 5) (by omega) zc5_zero zc5_one (by simp only [List.length_append, hfl, htl, zc5_len]; omega)
  have hfin : DelMPost w base (.slice (some ⟨g, 0, none⟩) (r.length + 1) cap) r (.returned (.slice (some ⟨g, 0, none⟩) r.length cap)) (W2.setRow g ((flat encM r ++ tl).take (r.length * 5) ++ zc5 ++ (flat encM r ++ tl).drop (r.length * 5 + 5)).toArray) := by
    refine ⟨_, rfl, ?_, hc2.setRow (.inl rfl) _, fun c h => h⟩
    refine ⟨hfl, .inr ⟨g, cap, _, rfl, hbg, hp2.setRow _, by omega, hcm, ?_, ?_⟩⟩
    · simp only [List.size_toArray, List.length_append, List.length_take, List.length_drop, hfl, htl, zc5_len]
      omega
    · simp only
      rw [List.append_assoc, List.take_append_of_le_length (by rw [List.length_take, List.length_append, hfl]; omega), List.take_take, Nat.min_self, List.take_append_of_le_length (by rw [hfl]; exact Nat.le_refl _), List.take_of_length_le (by rw [hfl]; exact Nat.le_refl _)]
  generalize W2.setRow g ((flat encM r ++ tl).take (r.length * 5) ++ zc5 ++ (flat encM r ++ tl).drop (r.length * 5 + 5)).toArray = W3 at hcl hfin
  obtain ⟨i, z, hi, hz0, hz1, hz2, hz3⟩ := elMsg'.i
  have hfin := hid hfin
  have hWe := hid hWe
  have hsz := hid hsz
  have htl := hid htl
  have hfl := hid hfl
  clear hp2 hc2 hp hown
  unfold maxLen at hcm
  have i1 : (1 : Int) ≤ (r.length : Int) + 1 := by omega
  have i2 : (1 : Int) ≤ (cap : Int) := by omega
  have i3 : 1 ≤ cap := by omega
  by_cases hc1 : cap = 1
  · obtain rfl : r = [] := List.eq_nil_of_length_eq_zero (by omega)
    subst hc1
    simp only [List.length_nil, Nat.zero_mul, Nat.sub_zero, Nat.zero_add] at hcl ⊢
    go_enter Try.func33, Try.ntmps33
    go_wp2
    go_region_law (first | (refine step_append_room rfl (.tmp 22) (.tmp 25) 44 rfl 27 i 5 Try.underlying44 hi hz1 g 0 0 1 (by simp [Act.eval, Act.put]) ⟨g, 0, none⟩ 0 0 (flat encM []) (by simp [Act.eval, Act.put]) hfl.out (fun j u hu => by simp [flat] at hu) h1 (by omega) hspare ?_; rw [hWe.out]))
    all_goals go_wp2_with (at_builtin; refine wpList_clear_run rfl (.tmp 31) 44 rfl rfl (hcl _) ?_)
    all_goals go_ret
    all_goals exact hfin.out
  · have hc2 : (cap == 1) = false := by simpa using hc1
    go_enter Try.func33, Try.ntmps33
    go_wp2
    go_region_law (first | (refine step_append_room rfl (.tmp 22) (.tmp 25) 44 rfl 27 i 5 Try.underlying44 hi hz1 g 0 0 cap (by simp [Act.eval, Act.put]) ⟨g, 5, none⟩ r.length (cap - 1) (flat encM r) (by simp [Act.eval, Act.put, hc1]) hfl.out hnews h1 (by omega) hspare ?_; rw [hWe.out]))
    all_goals go_wp2_with (at_builtin; refine wpList_clear_run rfl (.tmp 31) 44 rfl rfl (hcl _) ?_)
    all_goals go_ret
    all_goals exact hfin.out
end Go.Proofs.Ytnlmkllhmldgiaa.Qu
