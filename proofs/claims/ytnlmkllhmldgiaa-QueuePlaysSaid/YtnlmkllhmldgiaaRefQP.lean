/- DERIVED. Plain words for QueuePlays: a port's wheel's row is the reference's row of who waits, sorted by their ticks; what Put, Ask and Expire make of both. No program is in sight; no statement is proved here. -/
import Derived.Test.YtnlmkllhmldgiaaQueueFlushesP
import Derived.Test.YtnlmkllhmldgiaaSortP
namespace Go.Proofs.Ytnlmkllhmldgiaa.Qu
set_option linter.unusedVariables false
set_option linter.unusedSimpArgs false
open Go.RowKit Go.Maps Go.Proofs.Ytnlmkllhmldgiaa.K Go.Proofs.Ytnlmkllhmldgiaa.Lb Go.Proofs.Ytnlmkllhmldgiaa.Wh Go.Proofs.Ytnlmkllhmldgiaa.Sp
theorem insK_eq (e : Int × Int) : ∀ l, insK e l = insL Prod.snd e l
  | [] => rfl
  | x :: t => by
    unfold insK insL
    rw [List.takeWhile_cons, List.dropWhile_cons]
    split
    · rename_i h
      rw [insK_eq e t]
      simp [h, insL]
    · rename_i h
      simp [h]
theorem stab_perm {u v : List (Int × Int)} (h : Stab Prod.snd u v) : u.Perm v := by
  rw [List.perm_iff_count]
  intro a
  have := congrArg (List.count a) (h.row a.2)
  rwa [List.count_filter (by simp), List.count_filter (by simp)] at this
theorem stab_filter {u v : List (Int × Int)} (f : Int × Int → Bool) (h : Stab Prod.snd u v) : Stab Prod.snd (u.filter f) (v.filter f) :=
  ⟨((stab_perm h).filter f).length_eq, fun k => by
    have e : ∀ l : List (Int × Int), (l.filter f).filter (fun p => p.2 == k) = (l.filter (fun p => p.2 == k)).filter f := fun l => by
      rw [List.filter_filter, List.filter_filter]
      exact List.filter_congr (fun x _ => Bool.and_comm _ _)
    rw [e, e, h.row]⟩
/-- A port, and the reference's row of who waits. -/
structure RRel (p : Prt) (ws : List (Int × Int)) : Prop where
  row : p.row = ws.map Prod.fst
  st : Stab Prod.snd ws (kuE p.es)
  srt : Srt Prod.snd (kuE p.es)
  nd : (ws.map Prod.fst).Nodup
theorem RRel.new (n : Int) : RRel (newP n) [] := ⟨rfl, Stab.refl _, Srt.nil, List.nodup_nil⟩
theorem RRel.keys {p : Prt} {ws : List (Int × Int)} (h : RRel p ws) (x : Int) : x ∈ keysE p.es ↔ x ∈ ws.map Prod.fst := by
  rw [ku_keys]
  exact ((stab_perm h.st).map Prod.fst).mem_iff.symm
theorem RRel.putNil {p : Prt} (h : RRel p []) (m : Msg) : RRel (putP p m).1 [] ∧ (putP p m).2 = (0, false, if (p.ms.length : Int) = p.hold then 10 else 0) ∧ (putP p m).1.ms = (if (p.ms.length : Int) = p.hold then p.ms else p.ms ++ [m]) ∧ (putP p m).1.hold = p.hold := by
  obtain ⟨h1, h2, h3, h4⟩ := h
  obtain ⟨hold, ms, row, es, s⟩ := p
  simp only [List.map_nil] at h1
  subst h1
  by_cases hf : (ms.length : Int) = hold
  · simp only [putP, if_pos hf]
    exact ⟨⟨rfl, h2, h3, h4⟩, by simp⟩
  · simp only [putP, if_neg hf]
    exact ⟨⟨rfl, h2, h3, h4⟩, by simp⟩
theorem RRel.putCons {p : Prt} {e : Int × Int} {r : List (Int × Int)} (h : RRel p (e :: r)) (m : Msg) : RRel (putP p m).1 r ∧ (putP p m).2 = (e.1, true, 0) ∧ (putP p m).1.ms = p.ms ∧ (putP p m).1.hold = p.hold := by
  obtain ⟨h1, h2, h3, h4⟩ := h
  obtain ⟨hold, ms, row, es, s⟩ := p
  simp only [List.map_cons] at h1
  subst h1
  have hn := List.nodup_cons.1 h4
  have hr : ∀ y ∈ r, (!(y.1 == e.1)) = true := fun y hy => by
    have : y.1 ≠ e.1 := fun h => hn.1 (h ▸ List.mem_map.2 ⟨y, hy, rfl⟩)
    simpa using this
  have hf : (e :: r).filter (fun y => !(y.1 == e.1)) = r := by
    rw [List.filter_cons]
    simp only [BEq.rfl, Bool.not_true, Bool.false_eq_true, ↓reduceIte]
    exact List.filter_eq_self.2 hr
  refine ⟨⟨?_, ?_, ?_, hn.2⟩, rfl, rfl, rfl⟩
  · show butT (e.1 :: r.map Prod.fst) e.1 = r.map Prod.fst
    unfold butT
    rw [List.filter_cons]
    simp only [bne_self_eq_false, Bool.false_eq_true, ↓reduceIte]
    refine List.filter_eq_self.2 (fun y hy => ?_)
    have : y ≠ e.1 := fun h => hn.1 (h ▸ hy)
    simpa using this
  · show Stab Prod.snd r (kuE (rmE e.1 es))
    rw [ku_rm, ← hf]
    have := stab_filter (fun y => !(y.1 == e.1)) h2
    rw [hf] at this ⊢
    exact this
  · show Srt Prod.snd (kuE (rmE e.1 es))
    rw [ku_rm]
    exact h3.sub _
/-- Ask, of one that waits; that has a message; that comes too late; that waits from now on. -/
theorem RRel.askAdd {p : Prt} {ws : List (Int × Int)} (h : RRel p ws) {x : Int} (hx : x ∉ ws.map Prod.fst) (u s : Int) : RRel { p with row := p.row ++ [x], es := setE p.es x u s, s := s } (ws ++ [(x, u)]) := by
  have hk : x ∉ keysE p.es := fun hm => hx ((h.keys x).1 hm)
  have e1 : kuE (setE p.es x u s) = insL Prod.snd (x, u) (kuE p.es) := by
    unfold setE
    rw [rmE_none hk, ku_ins, insK_eq]
  refine ⟨by show p.row ++ [x] = _; rw [h.row]; simp, ?_, ?_, ?_⟩
  · show Stab Prod.snd (ws ++ [(x, u)]) (kuE (setE p.es x u s))
    rw [e1]
    exact (h.st.app (Stab.refl [(x, u)])).trans (insL_stab h.srt)
  · show Srt Prod.snd (kuE (setE p.es x u s))
    rw [e1]
    exact insL_srt h.srt
  · rw [List.map_append]
    exact List.nodup_append.2 ⟨h.nd, by simp, fun a ha b hb => by simp at hb; subst hb; exact fun e => hx (e ▸ ha)⟩
def lateQ (now : Int) (e : Int × Int) : Bool := lateT now e.2
theorem RRel.exp {p : Prt} {ws : List (Int × Int)} (h : RRel p ws) (now : Int) : RRel (expP p now) (ws.filter (fun e => !lateQ now e)) ∧ keysE (p.es.filter (lateE now)) = ((sortL Prod.snd ws).filter (lateQ now)).map Prod.fst := by
  have e1 : kuE (p.es.filter (lateE now)) = (kuE p.es).filter (lateQ now) := ku_filter (lateQ now) p.es
  have e2 : kuE (p.es.filter (fun e => !lateE now e)) = (kuE p.es).filter (fun e => !lateQ now e) := ku_filter (fun e => !lateQ now e) p.es
  have e3 : kuE p.es = sortL Prod.snd ws := sortL_of h.st h.srt
  have e4 : keysE (p.es.filter (lateE now)) = ((sortL Prod.snd ws).filter (lateQ now)).map Prod.fst := by rw [ku_keys, e1, e3]
  refine ⟨⟨?_, ?_, ?_, h.nd.sublist (List.filter_sublist.map _)⟩, e4⟩
  · show (keysE (p.es.filter (lateE now))).foldl butT p.row = _
    rw [foldBut, e4, h.row, List.filter_map]
    congr 1
    refine List.filter_congr (fun e he => ?_)
    simp only [Function.comp]
    congr 1
    cases hl : lateQ now e with
    | true =>
      rw [List.contains_iff_mem]
      exact List.mem_map.2 ⟨e, List.mem_filter.2 ⟨(sortL_mem ws e).2 he, hl⟩, rfl⟩
    | false =>
      rw [← Bool.not_eq_true, List.contains_iff_mem]
      intro hm
      obtain ⟨y, hy, hk⟩ := List.mem_map.1 hm
      obtain ⟨h1, h2⟩ := List.mem_filter.1 hy
      have h1' := (sortL_mem ws y).1 h1
      have : y = e := by
        obtain ⟨i, hi, rfl⟩ := List.getElem_of_mem h1'
        obtain ⟨j, hj, rfl⟩ := List.getElem_of_mem he
        have := (List.getElem_inj (xs := ws.map Prod.fst) (i := i) (j := j) (h₀ := by simpa using hi) (h₁ := by simpa using hj) h.nd).1 (by simpa using hk)
        subst this; rfl
      rw [this, hl] at h2
      cases h2
  · show Stab Prod.snd _ (kuE (p.es.filter (fun e => !lateE now e)))
    rw [e2]
    exact stab_filter _ h.st
  · show Srt Prod.snd (kuE (p.es.filter (fun e => !lateE now e)))
    rw [e2]
    exact h.srt.sub _
/-- The first of the least comes first. -/
theorem sort_min {cur : List (Int × Int)} {i : Nat} (hi : i < cur.length) (h1 : ∀ e ∈ cur.take i, cur[i].2 < e.2) (h2 : ∀ e ∈ cur, cur[i].2 ≤ e.2) : sortL Prod.snd cur = cur[i] :: sortL Prod.snd (cur.take i ++ cur.drop (i + 1)) := by
  symm
  refine sortL_of ?_ (List.pairwise_cons.2 ⟨fun b hb => ?_, sortL_srt _⟩)
  · have e1 : cur = cur.take i ++ ([cur[i]] ++ cur.drop (i + 1)) := by
      rw [List.singleton_append, List.getElem_cons_drop, List.take_append_drop]
    have s1 : Stab Prod.snd (cur.take i ++ [cur[i]]) ([cur[i]] ++ cur.take i) := Stab.swap (fun a ha b hb => by simp at hb; subst hb; exact h1 a ha)
    have s2 := s1.app (Stab.refl (key := Prod.snd) (cur.drop (i + 1)))
    rw [List.append_assoc, ← e1, List.append_assoc] at s2
    exact s2.trans ((Stab.refl [cur[i]]).app (sortL_stab _))
  · have hb' := (sortL_mem _ b).1 hb
    rcases List.mem_append.1 hb' with h | h
    · exact Int.le_of_lt (h1 b h)
    · exact h2 b (List.mem_of_mem_drop h)
/-- What the reference's search has found ahead of place j. -/
def Sel (now : Int) (cur : List (Int × Int)) (j : Nat) (F : Int) : Prop :=
  (F = -1 ∧ ∀ k (_ : k < cur.length), k < j → lateQ now cur[k] = false) ∨
  ∃ f : Nat, F = f ∧ f < j ∧ ∃ hf : f < cur.length, lateQ now cur[f] = true ∧ (∀ k (_ : k < cur.length), k < j → lateQ now cur[k] = true → cur[f].2 ≤ cur[k].2) ∧ (∀ k (_ : k < cur.length), k < f → lateQ now cur[k] = true → cur[f].2 < cur[k].2)
theorem Sel.start (now : Int) (cur : List (Int × Int)) : Sel now cur 0 (-1) := .inl ⟨rfl, fun k _ h => by omega⟩
theorem Sel.skip {now : Int} {cur : List (Int × Int)} {j : Nat} {F : Int} (h : Sel now cur j F) (hj : j < cur.length) (hc : lateQ now cur[j] = false ∨ ∃ f : Nat, F = f ∧ ∃ hf : f < cur.length, cur[f].2 ≤ cur[j].2) : Sel now cur (j + 1) F := by
  rcases h with ⟨rfl, h⟩ | ⟨f, rfl, h1, hf, h2, h3, h4⟩
  · rcases hc with hc | ⟨f, e, _⟩
    · refine .inl ⟨rfl, fun k hk hkj => ?_⟩
      rcases Nat.lt_or_ge k j with h' | h'
      · exact h k hk h'
      · obtain rfl : k = j := by omega
        exact hc
    · omega
  · refine .inr ⟨f, rfl, by omega, hf, h2, fun k hk hkj hl => ?_, h4⟩
    rcases Nat.lt_or_ge k j with h' | h'
    · exact h3 k hk h' hl
    · obtain rfl : k = j := by omega
      rcases hc with hc | ⟨g, e, hg, hle⟩
      · rw [hc] at hl; cases hl
      · obtain rfl : f = g := by omega
        exact hle
theorem Sel.take {now : Int} {cur : List (Int × Int)} {j : Nat} {F : Int} (h : Sel now cur j F) (hj : j < cur.length) (hl : lateQ now cur[j] = true) (hc : F < 0 ∨ ∃ f : Nat, F = f ∧ ∃ hf : f < cur.length, cur[j].2 < cur[f].2) : Sel now cur (j + 1) j := by
  refine .inr ⟨j, rfl, by omega, hj, hl, fun k hk hkj hlk => ?_, fun k hk hkj hlk => ?_⟩
  · rcases Nat.lt_or_ge k j with h' | h'
    · rcases h with ⟨rfl, h⟩ | ⟨f, rfl, h1, hf, h2, h3, h4⟩
      · rw [h k hk h'] at hlk; cases hlk
      · rcases hc with hc | ⟨g, e, hg, hlt⟩
        · omega
        · obtain rfl : f = g := by omega
          have := h3 k hk h' hlk; omega
    · obtain rfl : k = j := by omega
      omega
  · rcases h with ⟨rfl, h⟩ | ⟨f, rfl, h1, hf, h2, h3, h4⟩
    · rw [h k hk hkj] at hlk; cases hlk
    · rcases hc with hc | ⟨g, e, hg, hlt⟩
      · omega
      · obtain rfl : f = g := by omega
        have := h3 k hk hkj hlk; omega
theorem Sel.pos {now : Int} {cur : List (Int × Int)} {j : Nat} {F : Int} (h : Sel now cur j F) (hF : 0 ≤ F) : ∃ f : Nat, F = f ∧ f < j ∧ f < cur.length := by
  rcases h with ⟨rfl, _⟩ | ⟨f, e, h1, h2, _⟩
  · omega
  · exact ⟨f, e, h1, h2⟩
theorem Sel.neg {now : Int} {cur : List (Int × Int)} {j : Nat} {F : Int} (h : Sel now cur j F) (hF : F < 0) : F = -1 := by
  rcases h with ⟨rfl, _⟩ | ⟨f, e, h1, h2, _⟩
  · rfl
  · omega
/-- The search at its end. -/
theorem Sel.none {now : Int} {cur : List (Int × Int)} (h : Sel now cur cur.length (-1)) : (sortL Prod.snd cur).filter (lateQ now) = [] ∧ cur.filter (fun e => !lateQ now e) = cur := by
  rcases h with ⟨-, h⟩ | ⟨f, e, _⟩
  · have hn : ∀ e ∈ cur, lateQ now e = false := fun e he => by
      obtain ⟨k, hk, rfl⟩ := List.getElem_of_mem he
      exact h k hk hk
    refine ⟨List.filter_eq_nil_iff.2 (fun e he => by rw [hn e ((sortL_mem cur e).1 he)]; simp), List.filter_eq_self.2 (fun e he => by rw [hn e he]; rfl)⟩
  · omega
theorem Sel.some {now : Int} {cur : List (Int × Int)} {f : Nat} (hcut : ∀ e ∈ cur, cutT e.2 = e.2) (h : Sel now cur cur.length (f : Int)) : ∃ hf : f < cur.length, (sortL Prod.snd cur).filter (lateQ now) = cur[f] :: (sortL Prod.snd (cur.take f ++ cur.drop (f + 1))).filter (lateQ now) ∧ (cur.take f ++ cur.drop (f + 1)).filter (fun e => !lateQ now e) = cur.filter (fun e => !lateQ now e) := by
  rcases h with ⟨e, _⟩ | ⟨g, e, h1, hf, h2, h3, h4⟩
  · omega
  · obtain rfl : f = g := by omega
    have hlt : ∀ e ∈ cur, lateQ now e = false → cur[f].2 < e.2 := fun e he hl => by
      have e1 := hcut e he
      have e2 := hcut _ (List.getElem_mem hf)
      unfold lateQ lateT at h2 hl
      simp only [decide_eq_true_eq, decide_eq_false_iff_not] at h2 hl
      rw [e1] at hl
      rw [e2] at h2
      omega
    have hs := sort_min hf (fun e he => by
      obtain ⟨k, hk, rfl⟩ := List.getElem_of_mem he
      have hk' : k < f := by simp at hk; omega
      rw [List.getElem_take]
      cases hl : lateQ now cur[k] with
      | true => exact h4 k (by omega) hk' hl
      | false => exact hlt _ (List.getElem_mem _) hl) (fun e he => by
      obtain ⟨k, hk, rfl⟩ := List.getElem_of_mem he
      cases hl : lateQ now cur[k] with
      | true => exact h3 k hk hk hl
      | false => exact Int.le_of_lt (hlt _ (List.getElem_mem _) hl))
    refine ⟨hf, ?_, ?_⟩
    · rw [hs, List.filter_cons, h2]; rfl
    · have e1 : cur = cur.take f ++ ([cur[f]] ++ cur.drop (f + 1)) := by
        rw [List.singleton_append, List.getElem_cons_drop, List.take_append_drop]
      conv => rhs; rw [e1]
      rw [List.filter_append, List.filter_append, List.filter_append]
      have : ([cur[f]].filter (fun e => !lateQ now e)) = [] := by simp [h2]
      rw [this, List.nil_append]
end Go.Proofs.Ytnlmkllhmldgiaa.Qu
