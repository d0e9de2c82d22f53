/- DERIVED. Plain words for the statement RouterFates: how often each number was told, through offers and steps. No statement is proved here. -/
import Derived.Test.YtggfallodkbgcaaRoutS
import Derived.Test.YtggfallodkbgcaaRouterLanesP
namespace Go.Proofs.Ytggfallodkbgcaa.Ro
set_option linter.unusedVariables false
set_option linter.unusedSimpArgs false
open Go.RowKit Go.Proofs.Ytggfallodkbgcaa.K Go.Proofs.Ytggfallodkbgcaa.Lb Go.Proofs.Ytggfallodkbgcaa.La Go.Proofs.Ytggfallodkbgcaa.Cf Go.Proofs.Ytggfallodkbgcaa.Gt Go.Proofs.Ytggfallodkbgcaa.Qu Go.Proofs.Ytggfallodkbgcaa.Wh
theorem _root_.Go.Proofs.Ytggfallodkbgcaa.K.Wd.chgB {base : Nat} {w0 w w' : World} {M N : Nat → Prop} (h : Wd base w0 w M) (hc : Chg N w w') (hN : ∀ b, N b → base ≤ b) : Wd base w0 w' M :=
  ⟨h.below.trans (hc.toBelow h.le hN), h.ge, fun b hb => Nat.lt_of_lt_of_le (h.lt b hb) hc.size, Nat.le_trans h.le hc.size⟩
/-- How many messages have a number. -/
def cntS (n : Nat) (l : List Msg) : Nat := (l.filter (fun m => m.seq == (n : Int))).length
theorem cntS_app (n : Nat) (a b : List Msg) : cntS n (a ++ b) = cntS n a + cntS n b := by unfold cntS; rw [List.filter_append, List.length_append]
theorem cntS_perm (n : Nat) {a b : List Msg} (h : a.Perm b) : cntS n a = cntS n b := (h.filter _).length_eq
theorem cntS_part (n : Nat) (f : Msg → Bool) (l : List Msg) : cntS n (l.filter f) + cntS n (l.filter (fun m => !f m)) = cntS n l := by
  unfold cntS
  induction l with
  | nil => rfl
  | cons x t ih =>
    by_cases hx : (x.seq == (n : Int)) = true <;> cases hf : f x <;> simp [hf, hx, List.filter_cons] at ih ⊢ <;> omega
theorem cntS_zero {n : Nat} {l : List Msg} (h : ∀ m ∈ l, m.seq ≠ (n : Int)) : cntS n l = 0 := by
  unfold cntS
  rw [List.length_eq_zero_iff, List.filter_eq_nil_iff]
  intro m hm
  simpa using h m hm
theorem insL_perm {α : Type} (key : α → Int) (e : α) (l : List α) : (Sp.insL key e l).Perm (e :: l) := by
  unfold Sp.insL
  refine List.perm_middle.trans ?_
  rw [List.takeWhile_append_dropWhile]
theorem foldl_perm {α : Type} (key : α → Int) : ∀ (u acc : List α), (u.foldl (fun acc e => Sp.insL key e acc) acc).Perm (u ++ acc)
  | [], acc => List.Perm.refl _
  | x :: t, acc => by
    rw [List.foldl_cons]
    exact (foldl_perm key t _).trans (((insL_perm key x acc).append_left t).trans List.perm_middle)
theorem sortM_perm (l : List Msg) : (sortM l).Perm l := by
  have := foldl_perm lane1 l []
  rw [List.append_nil] at this
  exact this
/-- Each number's fate counted once more. -/
def addF (F : List Int) (l : List Msg) : List Int := l.foldl (fun F m => F.set m.seq.toNat (F.getD m.seq.toNat 0 + 1)) F
theorem addF_snoc (F : List Int) (l : List Msg) (m : Msg) : addF F (l ++ [m]) = (addF F l).set m.seq.toNat ((addF F l).getD m.seq.toNat 0 + 1) := by unfold addF; rw [List.foldl_append]; rfl
theorem addF_len (F : List Int) (l : List Msg) : (addF F l).length = F.length := by
  unfold addF
  induction l generalizing F with
  | nil => rfl
  | cons x t ih => rw [List.foldl_cons, ih]; simp
theorem addF_get (F : List Int) (l : List Msg) (h : ∀ m ∈ l, 0 ≤ m.seq ∧ m.seq < F.length) (n : Nat) (hn : n < F.length) : (addF F l).getD n 0 = F.getD n 0 + cntS n l := by
  unfold addF
  induction l generalizing F with
  | nil => simp [cntS]
  | cons x t ih =>
    have hx := h x (by simp)
    rw [List.foldl_cons, ih _ (fun m hm => by rw [List.length_set]; exact h m (List.mem_cons_of_mem _ hm)) (by rw [List.length_set]; exact hn)]
    have e : cntS n (x :: t) = (if x.seq = (n : Int) then 1 else 0) + cntS n t := by
      unfold cntS
      by_cases hxn : x.seq = (n : Int)
      · rw [List.filter_cons_of_pos (by simp [hxn]), if_pos hxn, List.length_cons]; omega
      · rw [List.filter_cons_of_neg (by simp [hxn]), if_neg hxn]; omega
    rw [e]
    by_cases hxn : x.seq = (n : Int)
    · have : x.seq.toNat = n := by omega
      rw [if_pos hxn, this]
      simp [List.getD_eq_getElem?_getD, List.getElem?_set, hn]
      omega
    · have : x.seq.toNat ≠ n := by omega
      rw [if_neg hxn]
      simp [List.getD_eq_getElem?_getD, List.getElem?_set, this]
/-- While counting, no fate is great. -/
theorem addF_small {F : List Int} {B : Int} (h : ∀ n, 0 ≤ F.getD n 0 ∧ F.getD n 0 ≤ B) (hB : 0 ≤ B) (l : List Msg) : ∀ n, 0 ≤ (addF F l).getD n 0 ∧ (addF F l).getD n 0 ≤ B + l.length := by
  unfold addF
  induction l generalizing F B with
  | nil => intro n; have := h n; exact ⟨this.1, by show F.getD n 0 ≤ B + (0 : Nat); omega⟩
  | cons x t ih =>
    intro n
    rw [List.foldl_cons]
    have := ih (F := F.set x.seq.toNat (F.getD x.seq.toNat 0 + 1)) (B := B + 1) (fun k => by
      have h1 := h k
      have h2 := h x.seq.toNat
      by_cases e : x.seq.toNat = k
      · subst e
        by_cases hl : x.seq.toNat < F.length
        · simp [List.getD_eq_getElem?_getD, List.getElem?_set, hl] at h2 ⊢; omega
        · simp [List.getD_eq_getElem?_getD, List.getElem?_set, hl]; omega
      · simp [List.getD_eq_getElem?_getD, List.getElem?_set, e] at h1 ⊢; omega) (by omega) n
    simp only [List.length_cons]
    push_cast
    omega
/-- Each number that was given is told once, or there still. -/
structure FInv (g : Gte) (F : List Int) : Prop where
  len : F.length = 90
  ms : ∀ m ∈ g.ms, 1 ≤ m.seq ∧ m.seq ≤ g.seq
  yes : ∀ n : Nat, 1 ≤ n → (n : Int) ≤ g.seq → F.getD n 0 + cntS n g.ms = 1
  no : ∀ n : Nat, n < 90 → g.seq < n → F.getD n 0 = 0
  z : F.getD 0 0 = 0
  nn : ∀ n, 0 ≤ F.getD n 0
theorem FInv.small {g : Gte} {F : List Int} (h : FInv g F) : ∀ n, 0 ≤ F.getD n 0 ∧ F.getD n 0 ≤ 1 := fun n => by
  refine ⟨h.nn n, ?_⟩
  by_cases h0 : n = 0
  · subst h0; rw [h.z]; decide
  · by_cases h1 : (n : Int) ≤ g.seq
    · have := h.yes n (by omega) h1; omega
    · by_cases h2 : n < 90
      · rw [h.no n h2 (by omega)]; decide
      · rw [List.getD_eq_getElem?_getD, List.getElem?_eq_none (by rw [h.len]; omega)]; decide
theorem rep0 (n : Nat) : (List.replicate 90 (0 : Int)).getD n 0 = 0 := by
  rw [List.getD_eq_getElem?_getD, List.getElem?_replicate]; split <;> rfl
theorem FInv.new (k : Chan) (b : Bk) : FInv ⟨k, [], b, 0⟩ (List.replicate 90 0) := ⟨by simp, fun m hm => (by cases hm), fun n h1 h2 => by have h2 : (n : Int) ≤ 0 := h2; omega, fun n h1 h2 => rep0 n, rep0 0, fun n => by rw [rep0 n]; exact Int.le_refl 0⟩
theorem FInv.offer {g : Gte} {F : List Int} (h : FInv g F) (hs0 : 0 ≤ g.seq) (hs : g.seq < 89) (mode lane now round : Int) (ws : List Int) :
    FInv (offerT g mode lane ws now round).1 F ∧ (((offerT g mode lane ws now round).2.2 = 0 ∧ (offerT g mode lane ws now round).1.seq = g.seq + 1 ∧ (offerT g mode lane ws now round).2.1.seq = g.seq + 1) ∨ ((offerT g mode lane ws now round).2.2 ≠ 0 ∧ (offerT g mode lane ws now round).1.seq = g.seq)) := by
  unfold offerT
  split
  · rename_i hj; exact ⟨h, .inr ⟨hj, rfl⟩⟩
  · split
    · exact ⟨h, .inr ⟨show (2 : Int) ≠ 0 by decide, rfl⟩⟩
    · split
      · exact ⟨⟨h.len, h.ms, h.yes, h.no, h.z, h.nn⟩, .inr ⟨show (2 : Int) ≠ 0 by decide, rfl⟩⟩
      · refine ⟨⟨h.len, fun m hm => ?_, fun n h1 h2 => ?_, fun n h1 h2 => h.no n h1 (by simp only at h2; omega), h.z, h.nn⟩, .inl ⟨rfl, rfl, rfl⟩⟩
        · rcases List.mem_append.1 hm with hm | hm
          · have := h.ms m hm; simp only; omega
          · simp at hm; subst hm; simp only; omega
        · simp only at h2 ⊢
          rw [cntS_app]
          by_cases hn : (n : Int) = g.seq + 1
          · have z1 := h.no n (by omega) (by omega)
            have z2 : cntS n g.ms = 0 := cntS_zero (fun m hm => by have := (h.ms m hm).2; omega)
            rw [z1, z2]
            simp [cntS, hn]
          · have z1 := h.yes n h1 (by omega)
            have z2 : cntS n [(⟨ws, lane, cutT now, addT now g.k.life, g.seq + 1⟩ : Msg)] = 0 := cntS_zero (fun m hm => by simp at hm; subst hm; simp only; omega)
            rw [z2]; omega
/-- What a step told. -/
def toldR (now : Int) (g : Gte) (R : Gte × Prt × Int × Int × Msg) : List Msg := outT now g.ms ++ (if R.2.2.1 = 0 then [] else [R.2.2.2.2])
theorem FInv.step {g : Gte} {F : List Int} (h : FInv g F) (hs : g.seq < 90) (p : Prt) (now : Int) :
    FInv (stepR g p now).1 (addF F (toldR now g (stepR g p now))) ∧ ∀ x ∈ toldR now g (stepR g p now), 1 ≤ x.seq ∧ x.seq ≤ g.seq := by
  have hmem : ∀ x ∈ sortM g.ms, 1 ≤ x.seq ∧ x.seq ≤ g.seq := fun x hx => h.ms x ((Sp.sortL_mem (key := lane1) g.ms x).1 hx)
  have hpart : ∀ n, cntS n (outT now g.ms) + cntS n (restT now g.ms) = cntS n g.ms := fun n => by
    rw [← cntS_perm n (sortM_perm g.ms)]; exact cntS_part n _ _
  have hout : ∀ x ∈ outT now g.ms, 1 ≤ x.seq ∧ x.seq ≤ g.seq := fun x hx => hmem x (List.mem_filter.1 hx).1
  have hrest : ∀ x ∈ restT now g.ms, 1 ≤ x.seq ∧ x.seq ≤ g.seq := fun x hx => hmem x (List.mem_filter.1 hx).1
  have key : ∀ (told r : List Msg), (∀ x ∈ told, 1 ≤ x.seq ∧ x.seq ≤ g.seq) → (∀ x ∈ r, 1 ≤ x.seq ∧ x.seq ≤ g.seq) → (∀ n, cntS n told + cntS n r = cntS n g.ms) → FInv { g with ms := r } (addF F told) := fun told r h1 h2 h3 => by
    have hb : ∀ m ∈ told, 0 ≤ m.seq ∧ m.seq < F.length := fun m hm => by have := h1 m hm; rw [h.len]; omega
    refine ⟨by rw [addF_len]; exact h.len, h2, fun n k1 k2 => ?_, fun n k1 k2 => ?_, ?_, fun n => (addF_small h.small (by decide) told n).1⟩
    · have k2 : (n : Int) ≤ g.seq := k2
      rw [addF_get F told hb n (by rw [h.len]; omega)]
      have := h.yes n k1 k2
      have := h3 n
      simp only
      omega
    · have k2 : g.seq < (n : Int) := k2
      rw [addF_get F told hb n (by rw [h.len]; exact k1), h.no n k1 k2, cntS_zero (fun m hm => by have := (h1 m hm).2; omega)]
      rfl
    · rw [addF_get F told hb 0 (by rw [h.len]; decide), h.z, cntS_zero (fun m hm => by have := (h1 m hm).1; omega)]
      rfl
  unfold toldR stepR
  split
  · rename_i hr
    simp only [if_true, List.append_nil]
    exact ⟨key _ _ hout (fun x hx => by cases hx) (fun n => by have := hpart n; rw [hr] at this; exact this), hout⟩
  · rename_i m r hr
    simp only
    rw [if_neg (kindP_ne _)]
    rw [hr] at hrest hpart
    have ht : ∀ x ∈ outT now g.ms ++ [m], 1 ≤ x.seq ∧ x.seq ≤ g.seq := fun x hx => by
      rcases List.mem_append.1 hx with hx | hx
      · exact hout x hx
      · simp at hx; subst hx; exact hrest x (by simp)
    refine ⟨key _ _ ht (fun x hx => hrest x (List.mem_cons_of_mem _ hx)) (fun n => ?_), ht⟩
    have := hpart n
    rw [show (m :: r) = [m] ++ r from rfl, cntS_app] at this
    rw [cntS_app]; omega
/-- A message that a step takes isn't late. -/
theorem step_late {g : Gte} {p : Prt} {now : Int} (hn : 0 ≤ now) (hk : (stepR g p now).2.2.1 ≠ 0) : now < (stepR g p now).2.2.2.2.late := by
  unfold stepR at hk ⊢
  split
  · rename_i hr; rw [hr] at hk; exact absurd rfl hk
  · rename_i m r hr
    have : m ∈ restT now g.ms := by rw [hr]; simp
    have := (List.mem_filter.1 this).2
    simp only
    unfold lateT cutT at this
    simp at this
    omega
theorem told_len {g : Gte} (p : Prt) (now : Int) (h : g.ms.length ≤ 24) : (toldR now g (stepR g p now)).length ≤ 25 := by
  unfold toldR
  rw [List.length_append]
  have h1 : (outT now g.ms).length ≤ 24 := Nat.le_trans (List.length_filter_le _ _) (by rw [sortM_len]; exact h)
  split
  · simp; omega
  · simp; omega
theorem FInv.last {g : Gte} {F : List Int} (h : FInv g F) (hs : g.seq < 90) (n : Nat) (h1 : 1 ≤ n) (h2 : (n : Int) ≤ g.seq) : (addF F (sortM g.ms)).getD n 0 = 1 := by
  rw [addF_get F _ (fun m hm => by have := h.ms m ((Sp.sortL_mem (key := lane1) g.ms m).1 hm); rw [h.len]; omega) n (by rw [h.len]; omega), cntS_perm n (sortM_perm g.ms)]
  exact h.yes n h1 h2
theorem ask_bound (p : Prt) (x u now : Int) {i : Int} (h : p.s ≤ i) (hr : (p.row.length : Int) ≤ i) : (askP p x u now).1.s ≤ i + 1 ∧ ((askP p x u now).1.row.length : Int) ≤ i + 1 := by
  unfold askP
  split
  · simp only; omega
  · split
    · simp only; omega
    · split
      · simp only; omega
      · simp; omega
theorem put_bound (p : Prt) (m : Msg) : (putP p m).1.s = p.s ∧ (putP p m).1.row.length ≤ p.row.length := by
  unfold putP
  split
  · rename_i x t hrow
    refine ⟨rfl, ?_⟩
    simp only
    unfold butT
    exact List.length_filter_le _ _
  · split <;> exact ⟨rfl, Nat.le_refl _⟩
theorem step_bound (g : Gte) (p : Prt) (now : Int) : (stepR g p now).2.1.s = p.s ∧ (stepR g p now).2.1.row.length ≤ p.row.length := by
  unfold stepR
  split
  · exact ⟨rfl, Nat.le_refl _⟩
  · exact put_bound p _
end Go.Proofs.Ytggfallodkbgcaa.Ro
