/- DERIVED. A port in plain words, behind Sweep, Expire and Flush. No statement is proved here. -/
import Derived.Test.YtnlmkllhmldgiaaQueueX
import Derived.Test.YtnlmkllhmldgiaaWheelL
namespace Go.Proofs.Ytnlmkllhmldgiaa.Qu
set_option linter.unusedVariables false
set_option linter.unusedSimpArgs false
open Go.RowKit Go.Maps Go.Proofs.Ytnlmkllhmldgiaa.K Go.Proofs.Ytnlmkllhmldgiaa.Lb Go.Proofs.Ytnlmkllhmldgiaa.Wh
theorem foldRm : ∀ (zs : List Int) (l : List Ent), zs.foldl (fun l z => rmE z l) l = l.filter (fun e => !zs.contains e.k)
  | [], l => (List.filter_eq_self.2 (fun _ _ => rfl)).symm
  | z :: zs, l => by
    rw [List.foldl_cons, foldRm zs, rmE, List.filter_filter]
    refine List.filter_congr (fun e _ => ?_)
    rw [List.contains_cons]
    cases (e.k == z) <;> simp
theorem foldBut : ∀ (zs : List Int) (l : List Int), zs.foldl butT l = l.filter (fun x => !zs.contains x)
  | [], l => (List.filter_eq_self.2 (fun _ _ => rfl)).symm
  | z :: zs, l => by
    rw [List.foldl_cons, foldBut zs, butT, List.filter_filter]
    refine List.filter_congr (fun e _ => ?_)
    rw [List.contains_cons]
    cases h : (e == z) <;> simp_all
theorem WRel.fold {s : Int} : ∀ (zs : List Int) {D : DataW Unit} {l : List Ent}, WRel D s l → WRel (zs.foldl (fun D z => D.del (.int .i64 z)) D) s (zs.foldl (fun l z => rmE z l) l)
  | [], _, _, h => h
  | z :: zs, _, _, h => WRel.fold zs (h.del z)
theorem keys_inj {l : List Ent} (h : (keysE l).Nodup) {a b : Ent} (ha : a ∈ l) (hb : b ∈ l) (e : a.k = b.k) : a = b := by
  have h1 := find_of_mem h ha
  have h2 := find_of_mem h hb
  rw [e, h2] at h1
  exact (Option.some.inj h1).symm
theorem keys_part {l : List Ent} (h : (keysE l).Nodup) (f : Ent → Bool) {e : Ent} (he : e ∈ l) : (keysE (l.filter f)).contains e.k = f e := by
  cases hf : f e with
  | true => simp only [List.contains_iff_mem]; exact List.mem_map.2 ⟨e, List.mem_filter.2 ⟨he, hf⟩, rfl⟩
  | false =>
    rw [← Bool.not_eq_true, List.contains_iff_mem]
    intro hm
    obtain ⟨e', he', hk⟩ := List.mem_map.1 hm
    obtain ⟨h1, h2⟩ := List.mem_filter.1 he'
    rw [keys_inj h h1 he hk, hf] at h2
    cases h2
theorem keys_rest {l : List Ent} (h : (keysE l).Nodup) (f : Ent → Bool) : (keysE l).filter (fun x => !(keysE (l.filter f)).contains x) = keysE (l.filter (fun e => !f e)) := by
  unfold keysE
  rw [List.filter_map]
  congr 1
  refine List.filter_congr (fun e he => ?_)
  have := keys_part h f he
  unfold keysE at this
  simp only [Function.comp, this]
def expP (p : Prt) (now : Int) : Prt := { p with row := (keysE (p.es.filter (lateE now))).foldl butT p.row, es := p.es.filter (fun e => !lateE now e) }
def flushP (p : Prt) : Prt := { p with ms := [], row := [], es := [] }
theorem PInv.exp {p : Prt} (h : PInv p) (hn : (keysE p.es).Nodup) (now : Int) : PInv (expP p now) := by
  refine ⟨?_, h.room, h.hold, h.words, ?_⟩
  · rcases h.one with h1 | h1
    · exact .inl h1
    · right; show (keysE (p.es.filter (lateE now))).foldl butT p.row = []; rw [foldBut, h1]; rfl
  · show ((keysE (p.es.filter (lateE now))).foldl butT p.row).Perm (keysE (p.es.filter (fun e => !lateE now e)))
    rw [foldBut, ← keys_rest hn]
    exact h.perm.filter _
def TellX (w : World) (M W : Nat → Prop) (pb : Nat) (ms : List Msg) (p' : Prt) (e : Ending) (w' : World) : Prop :=
  ∃ v qs M', e = .returned v ∧ qs.map Prod.snd = ms ∧ MsgsAt (fun b => w.heap.size ≤ b ∧ ¬ M' b) W w' v qs ∧ PortF w' M' W pb p' ∧ (∀ b, M' b → M b ∨ w.heap.size ≤ b) ∧ (∀ b, M b → M' b) ∧ Chg M w w'
section
variable {w w' : World} {M W : Nat → Prop} {pb : Nat} {p : Prt}
theorem sweep_x (h : PortF w M W pb p) (now : Int) : Calls Try.prog 17 #[.pointer (some ⟨pb, 0, none⟩), .int .i64 now] w (TellX w M W pb (p.ms.filter (lateM now)) { p with ms := p.ms.filter (fun m => !lateM now m) }) := by
  unfold TellX
  obtain ⟨base, wb, mb, lv, rv, n, D, qs, hP, hn, hR, hM, hl, hd, hW, hq, hI⟩ := h
  obtain ⟨hold, ms, row, es, s⟩ := p
  simp only at *
  subst hq
  have hroom := hI.room
  have hhold := hI.hold
  simp only [List.length_map] at hroom hhold
  refine (sweep_c hP (by omega) now).mono ?_
  rintro e w' ⟨v, lv', he, hP', hms, hc, hov, hlv⟩
  have hf1 : (qs.filter (lateP now)).map Prod.snd = (qs.map Prod.snd).filter (lateM now) := by rw [List.filter_map]; rfl
  have hf2 : (qs.filter (fun p => !lateP now p)).map Prod.snd = (qs.map Prod.snd).filter (fun m => !lateM now m) := by rw [List.filter_map]; rfl
  have hCM : Chg M w w' := hc.mono hM
  have hW' : WordsIn W w' qs := hW.kept hc.size (fun b hb hlt => hCM.block b hlt (fun hm => hd b hm hb))
  obtain ⟨ao, cap, hv, hlen, hwd, hcell⟩ := hms
  have hPM : ∀ b, PMut pb wb mb lv' rv b → M b ∨ w.heap.size ≤ b := fun b hb => by
    rcases hb with hb | hb | hb | hb | hb
    · exact .inl (hM b (.inl hb))
    · exact .inl (hM b (.inr (.inl hb)))
    · exact .inl (hM b (.inr (.inr (.inl hb))))
    · exact .inr (hlv b hb)
    · exact .inl (hM b (.inr (.inr (.inr (.inr hb)))))
  refine ⟨v, qs.filter (lateP now), fun b => M b ∨ PMut pb wb mb lv' rv b, he, hf1, ⟨ao, cap, hv, hlen, hW'.sub (fun q hq => (List.mem_filter.1 hq).1), ?_⟩, ⟨base, wb, mb, lv', rv, n, D, _, hP', hn, hR, fun b hb => .inr hb, ?_, ?_, hW'.sub (fun q hq => (List.mem_filter.1 hq).1), hf2, ⟨?_, ?_, hI.hold, fun m hm => hI.words m (List.mem_filter.1 hm).1, hI.perm⟩⟩, fun b hb => hb.elim .inl (hPM b), fun b hb => .inl hb, hCM⟩
  · rcases hcell with h | ⟨g, o, rfl, hg, hgl, hx⟩
    · exact .inl h
    · refine .inr ⟨g, o, rfl, ⟨hg, fun hm => ?_⟩, hgl, hx⟩
      rcases hm with hm | hm
      · have := hl g (.inl hm); omega
      · exact hov g (by rw [hv]; rfl) hm
  · intro b hb
    rcases hb with (hb | hb) | hb
    · have := hl b (.inl hb); have := hc.size; omega
    · exact hP'.mut_lt hb
    · have := hl b (.inr hb); have := hc.size; omega
  · intro b hm hw
    rcases hm with hm | hm
    · exact hd b hm hw
    · rcases hPM b hm with h | h
      · exact hd b h hw
      · have := hl b (.inr hw); omega
  · rcases hI.one with h | h
    · left; simp only at h; simp only [h]; rfl
    · exact .inr h
  · have := List.length_filter_le (fun m => !lateM now m) (qs.map Prod.snd)
    simp only [List.length_map] at this
    show (((qs.map Prod.snd).filter (fun m => !lateM now m)).length : Int) ≤ hold
    omega
theorem PortF.rows (h : PortF w M W pb p) : p.row.length = p.es.length := by
  have := h.inv.perm.length_eq
  unfold keysE at this
  rw [List.length_map] at this
  exact this
def ExpX (w : World) (M W : Nat → Prop) (pb : Nat) (p : Prt) (now : Int) (e : Ending) (w' : World) : Prop :=
  ∃ v, e = .returned v ∧ IntsAt (fun b => w.heap.size ≤ b) w' v (keysE (p.es.filter (lateE now))) ∧ PortF w' M W pb (expP p now) ∧ Chg M w w'
set_option maxHeartbeats 1000000 in
theorem expire_x (h : PortF w M W pb p) (now : Int) (hs : p.s ≤ 1000000) (hrl : p.row.length ≤ 1000000) : Calls Try.prog 13 #[.pointer (some ⟨pb, 0, none⟩), .int .i64 now] w (ExpX w M W pb p now) := by
  have hrows := h.rows
  unfold ExpX
  obtain ⟨base, wb, mb, lv, rv, n, D, qs, hP, hn, hR, hM, hl, hd, hW, hq, hI⟩ := h
  obtain ⟨hold, ms, row, es, s⟩ := p
  simp only at *
  subst hq
  have hnd := hR.nd
  obtain ⟨c0, c1, c2, c3, f2, f3, hpl⟩ := hP.cells
  have hap := hP.apart
  have hdue := hid (due_l (M := WM wb mb) (⟨mb, n, D, hP.wh, hR, hn, fun b h => h, fun b h => h.elim (fun e => e ▸ hP.wh.lt.1) (fun e => e ▸ hP.wh.lt.2)⟩ : WhM w (WM wb mb) wb es s) hs (by omega) now)
  have hbd := fun e he => (hR.bd e he).1
  have key : ∀ w1 v, IntsAt (fun b => w.heap.size ≤ b) w1 v (keysE (es.filter (lateE now))) → WhM w1 (WM wb mb) wb (es.filter (fun e => !lateE now e)) s → Chg (WM wb mb) w w1 →
      Calls Try.prog 37 #[.pointer (some ⟨pb, 0, none⟩), v] w1 fun e w2 => e = .returned (.tuple #[]) ∧ IntsAt (fun b => w.heap.size ≤ b) w2 v (keysE (es.filter (lateE now))) ∧ PortF w2 M W pb (expP ⟨hold, qs.map Prod.snd, row, es, s⟩ now) ∧ Chg M w w2 := by
    intro w1 v hv hwh hc1
    obtain ⟨mb', n', D', hA, hR', hn', hWM', hlt'⟩ := hwh
    have hmb' : mb' = wb ∨ mb' = mb := hWM' mb' (.inr rfl)
    have hPM : ∀ b, PMut pb wb mb' lv rv b → PMut pb wb mb lv rv b := fun b hb => by
      rcases hb with hb | hb | hb | hb | hb
      · exact .inl hb
      · exact .inr (.inl hb)
      · rcases hmb' with h | h
        · exact .inr (.inl (hb.trans h))
        · exact .inr (.inr (.inl (hb.trans h)))
      · exact .inr (.inr (.inr (.inl hb)))
      · exact .inr (.inr (.inr (.inr hb)))
    have k1 : ∀ b, b < w.heap.size → b ≠ wb → b ≠ mb → w1.heap[b]? = w.heap[b]? := fun b hb h1 h2 => hc1.block b hb (fun h => h.elim h1 h2)
    have hc1M : Chg M w w1 := hc1.mono (fun b hb => hM b (hb.elim (fun h => .inr (.inl h)) (fun h => .inr (.inr (.inl h)))))
    have hP1 : PortAt w1 0 pb wb mb' hold lv rv qs row n' D' s := by
      refine ⟨hP.at_.of (k1 pb hpl hap.1 hap.2.1), hA, K.own_mono (K.own_of hP.l (fun b e => k1 b (K.own_lt hP.l e) (hap.2.2.2.1 b e).2.1 (hap.2.2.2.1 b e).2.2)) (Nat.zero_le _), K.own_mono (K.own_of hP.row (fun b e => k1 b (K.own_lt hP.row e) (hap.2.2.2.2.1 b e).2.1 (hap.2.2.2.2.1 b e).2.2)) (Nat.zero_le _), ?_, ⟨Nat.zero_le _, Nat.zero_le _, Nat.zero_le _⟩⟩
      refine WordsIn.mono (hP.words.kept hc1.size (fun b hb hlt => k1 b hlt (fun e => hb (.inr (.inl e))) (fun e => hb (.inr (.inr (.inl e)))))) (fun b hb _ hm => hb (hPM b hm))
    have hz : IntsAt (fun b => ¬ PMut pb wb mb' lv rv b) w1 v (keysE (es.filter (lateE now))) := hv.mono (fun b hb _ hm => by have := hP.mut_lt (hPM b hm); omega)
    refine (away_c hP1 hz (fun z hz => ?_)).mono ?_
    · obtain ⟨e, he, rfl⟩ := List.mem_map.1 hz
      exact hbd e (List.mem_filter.1 he).1
    rintro e w2 ⟨rfl, rv', hP2, hc2, hrv⟩
    have hc2M : Chg M w1 w2 := hc2.mono (fun b hb => hM b (hPM b hb))
    have hCM : Chg M w w2 := hc1M.trans hc2M (fun _ h => .inl h)
    refine ⟨rfl, hv.kept hc2.size (fun b hb hlt => hc2.block b hlt (fun hm => by have := hP.mut_lt (hPM b hm); omega)), ?_, hCM⟩
    have hRf := WRel.fold (keysE (es.filter (lateE now))) hR'
    have hes : (keysE (es.filter (lateE now))).foldl (fun l z => rmE z l) (es.filter (fun e => !lateE now e)) = es.filter (fun e => !lateE now e) := by
      rw [foldRm, List.filter_eq_self]
      intro e he
      obtain ⟨h1, h2⟩ := List.mem_filter.1 he
      rw [keys_part hnd (lateE now) h1]
      exact h2
    rw [hes] at hRf
    exact ⟨0, wb, mb', lv, rv', n', _, qs, hP2, hn', hRf, fun b hb => hM b (hPM b (by
      rcases hb with hb | hb | hb | hb | hb
      · exact .inl hb
      · exact .inr (.inl hb)
      · exact .inr (.inr (.inl hb))
      · exact .inr (.inr (.inr (.inl hb)))
      · exact .inr (.inr (.inr (.inr (hrv b hb)))))), fun b hb => by have := hl b hb; have := hCM.size; omega, hd, hW.kept hCM.size (fun b hb hlt => hCM.block b hlt (fun hm => hd b hm hb)), rfl, hI.exp hnd now⟩
  replace key := hid key
  go_enter Try.func13, Try.ntmps13
  go_wp2_with (first | (go_at_call 39; (with_reducible refine (hdue.out).mono ?_); rintro e w1 ⟨v, rfl, hv, hwh, hc1⟩; obtain ⟨av, cv, rfl⟩ := hv.shape; have hk := hid (key.out _ _ hv hwh hc1)) | (go_at_call 37; (with_reducible refine (hk.out).mono ?_); rintro e w2 ⟨rfl, hv2, hP2, hC2⟩; have hv2 := hid hv2; have hP2 := hid hP2; have hC2 := hid hC2))
  go_ret
  exact ⟨_, rfl, hv2.out, hP2.out, hC2.out⟩
def FlushX (w : World) (M W : Nat → Prop) (pb : Nat) (p : Prt) (e : Ending) (w' : World) : Prop :=
  ∃ v rv qs M', e = .returned (.tuple #[v, rv]) ∧ qs.map Prod.snd = p.ms ∧ MsgsAt (fun b => M b ∧ ¬ M' b) W w' v qs ∧ IntsAt (fun b => w.heap.size ≤ b) w' rv p.row ∧ PortF w' M' W pb (flushP p) ∧ (∀ b, M' b → M b) ∧ Chg M w w'
end
end Go.Proofs.Ytnlmkllhmldgiaa.Qu
