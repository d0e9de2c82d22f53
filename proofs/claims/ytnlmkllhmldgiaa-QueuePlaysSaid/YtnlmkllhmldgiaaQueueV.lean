/- DERIVED. A port in plain words, behind Sweep, Expire and Flush. No statement is proved here. -/
import Derived.Test.YtnlmkllhmldgiaaQueueX
import Derived.Test.YtnlmkllhmldgiaaWheelL
namespace Go.Proofs.Ytnlmkllhmldgiaa.Qu
set_option linter.unusedVariables false
set_option linter.unusedSimpArgs false
open Go.RowKit Go.Maps Go.Proofs.Ytnlmkllhmldgiaa.K Go.Proofs.Ytnlmkllhmldgiaa.Lb Go.Proofs.Ytnlmkllhmldgiaa.Wh
theorem foldRm : ∀ (zs : List Int) (l : List Ent), zs.foldl (fun l z => rmE z l) l = l.filter (fun e => !zs.contains e.k)
  | [], l => (List.filter_eq_self.2 (fun _ _ => rfl)).symm
  | z :: zs, l => by
    rw [List.foldl_cons, foldRm zs, rmE, List.filter_filter]
    refine List.filter_congr (fun e _ => ?_)
    rw [List.contains_cons]
    cases (e.k == z) <;> simp
theorem foldBut : ∀ (zs : List Int) (l : List Int), zs.foldl butT l = l.filter (fun x => !zs.contains x)
  | [], l => (List.filter_eq_self.2 (fun _ _ => rfl)).symm
  | z :: zs, l => by
    rw [List.foldl_cons, foldBut zs, butT, List.filter_filter]
    refine List.filter_congr (fun e _ => ?_)
    rw [List.contains_cons]
    cases h : (e == z) <;> simp_all
theorem WRel.fold {s : Int} : ∀ (zs : List Int) {D : DataW Unit} {l : List Ent}, WRel D s l → WRel (zs.foldl (fun D z => D.del (.int .i64 z)) D) s (zs.foldl (fun l z => rmE z l) l)
  | [], _, _, h => h
  | z :: zs, _, _, h => WRel.fold zs (h.del z)
theorem keys_inj {l : List Ent} (h : (keysE l).Nodup) {a b : Ent} (ha : a ∈ l) (hb : b ∈ l) (e : a.k = b.k) : a = b := by
  have h1 := find_of_mem h ha
  have h2 := find_of_mem h hb
  rw [e, h2] at h1
  exact (Option.some.inj h1).symm
theorem keys_part {l : List Ent} (h : (keysE l).Nodup) (f : Ent → Bool) {e : Ent} (he : e ∈ l) : (keysE (l.filter f)).contains e.k = f e := by
  cases hf : f e with
  | true => simp only [List.contains_iff_mem]; exact List.mem_map.2 ⟨e, List.mem_filter.2 ⟨he, hf⟩, rfl⟩
  | false =>
    rw [← Bool.not_eq_true, List.contains_iff_mem]
    intro hm
    obtain ⟨e', he', hk⟩ := List.mem_map.1 hm
    obtain ⟨h1, h2⟩ := List.mem_filter.1 he'
    rw [keys_inj h h1 he hk, hf] at h2
    cases h2
theorem keys_rest {l : List Ent} (h : (keysE l).Nodup) (f : Ent → Bool) : (keysE l).filter (fun x => !(keysE (l.filter f)).contains x) = keysE (l.filter (fun e => !f e)) := by
  unfold keysE
  rw [List.filter_map]
  congr 1
  refine List.filter_congr (fun e he => ?_)
  have := keys_part h f he
  unfold keysE at this
  simp only [Function.comp, this]
def expP (p : Prt) (now : Int) : Prt := { p with row := (keysE (p.es.filter (lateE now))).foldl butT p.row, es := p.es.filter (fun e => !lateE now e) }
def flushP (p : Prt) : Prt := { p with ms := [], row := [], es := [] }
theorem PInv.exp {p : Prt} (h : PInv p) (hn : (keysE p.es).Nodup) (now : Int) : PInv (expP p now) := by
  refine ⟨?_, h.room, h.hold, h.words, ?_⟩
  · rcases h.one with h1 | h1
    · exact .inl h1
    · right; show (keysE (p.es.filter (lateE now))).foldl butT p.row = []; rw [foldBut, h1]; rfl
  · show ((keysE (p.es.filter (lateE now))).foldl butT p.row).Perm (keysE (p.es.filter (fun e => !lateE now e)))
    rw [foldBut, ← keys_rest hn]
    exact h.perm.filter _
def TellX (w : World) (M W : Nat → Prop) (pb : Nat) (ms : List Msg) (p' : Prt) (e : Ending) (w' : World) : Prop :=
  ∃ v qs M', e = .returned v ∧ qs.map Prod.snd = ms ∧ MsgsAt (fun b => w.heap.size ≤ b ∧ ¬ M' b) W w' v qs ∧ PortF w' M' W pb p' ∧ (∀ b, M' b → M b ∨ w.heap.size ≤ b) ∧ (∀ b, M b → M' b) ∧ Chg M w w'
section
variable {w w' : World} {M W : Nat → Prop} {pb : Nat} {p : Prt}
theorem sweep_x (h : PortF w M W pb p) (now : Int) : Calls Try.prog 17 #[.pointer (some ⟨pb, 0, none⟩), .int .i64 now] w (TellX w M W pb (p.ms.filter (lateM now)) { p with ms := p.ms.filter (fun m => !lateM now m) }) := by
  unfold TellX
  obtain ⟨base, wb, mb, lv, rv, n, D, qs, hP, hn, hR, hM, hl, hd, hW, hq, hI⟩ := h
  obtain ⟨hold, ms, row, es, s⟩ := p
  simp only at *
  subst hq
  have hroom := hI.room
  have hhold := hI.hold
  simp only [List.length_map] at hroom hhold
  refine (sweep_c hP (by omega) now).mono ?_
  rintro e w' ⟨v, lv', he, hP', hms, hc, hov, hlv⟩
  have hf1 : (qs.filter (lateP now)).map Prod.snd = (qs.map Prod.snd).filter (lateM now) := by rw [List.filter_map]; rfl
  have hf2 : (qs.filter (fun p => !lateP now p)).map Prod.snd = (qs.map Prod.snd).filter (fun m => !lateM now m) := by rw [List.filter_map]; rfl
  have hCM : Chg M w w' := hc.mono hM
  have hW' : WordsIn W w' qs := hW.kept hc.size (fun b hb hlt => hCM.block b hlt (fun hm => hd b hm hb))
  obtain ⟨ao, cap, hv, hlen, hwd, hcell⟩ := hms
  have hPM : ∀ b, PMut pb wb mb lv' rv b → M b ∨ w.heap.size ≤ b := fun b hb => by
    rcases hb with hb | hb | hb | hb | hb
    · exact .inl (hM b (.inl hb))
    · exact .inl (hM b (.inr (.inl hb)))
    · exact .inl (hM b (.inr (.inr (.inl hb))))
    · exact .inr (hlv b hb)
    · exact .inl (hM b (.inr (.inr (.inr (.inr hb)))))
  refine ⟨v, qs.filter (lateP now), fun b => M b ∨ PMut pb wb mb lv' rv b, he, hf1, ⟨ao, cap, hv, hlen, hW'.sub (fun q hq => (List.mem_filter.1 hq).1), ?_⟩, ⟨base, wb, mb, lv', rv, n, D, _, hP', hn, hR, fun b hb => .inr hb, ?_, ?_, hW'.sub (fun q hq => (List.mem_filter.1 hq).1), hf2, ⟨?_, ?_, hI.hold, fun m hm => hI.words m (List.mem_filter.1 hm).1, hI.perm⟩⟩, fun b hb => hb.elim .inl (hPM b), fun b hb => .inl hb, hCM⟩
  · rcases hcell with h | ⟨g, o, rfl, hg, hgl, hx⟩
    · exact .inl h
    · refine .inr ⟨g, o, rfl, ⟨hg, fun hm => ?_⟩, hgl, hx⟩
      rcases hm with hm | hm
      · have := hl g (.inl hm); omega
      · exact hov g (by rw [hv]; rfl) hm
  · intro b hb
    rcases hb with (hb | hb) | hb
    · have := hl b (.inl hb); have := hc.size; omega
    · exact hP'.mut_lt hb
    · have := hl b (.inr hb); have := hc.size; omega
  · intro b hm hw
    rcases hm with hm | hm
    · exact hd b hm hw
    · rcases hPM b hm with h | h
      · exact hd b h hw
      · have := hl b (.inr hw); omega
  · rcases hI.one with h | h
    · left; simp only at h; simp only [h]; rfl
    · exact .inr h
  · have := List.length_filter_le (fun m => !lateM now m) (qs.map Prod.snd)
    simp only [List.length_map] at this
    show (((qs.map Prod.snd).filter (fun m => !lateM now m)).length : Int) ≤ hold
    omega
theorem PortF.rows (h : PortF w M W pb p) : p.row.length = p.es.length := by
  have := h.inv.perm.length_eq
  unfold keysE at this
  rw [List.length_map] at this
  exact this
def ExpX (w : World) (M W : Nat → Prop) (pb : Nat) (p : Prt) (now : Int) (e : Ending) (w' : World) : Prop :=
  ∃ v, e = .returned v ∧ IntsAt (fun b => w.heap.size ≤ b) w' v (keysE (p.es.filter (lateE now))) ∧ PortF w' M W pb (expP p now) ∧ Chg M w w'
set_option maxHeartbeats 1000000 in
theorem expire_x (h : PortF w M W pb p) (now : Int) (hs : p.s ≤ 1000000) (hrl : p.row.length ≤ 1000000) : Calls Try.prog 13 #[.pointer (some ⟨pb, 0, none⟩), .int .i64 now] w (ExpX w M W pb p now) := by
  have hrows := h.rows
  unfold ExpX
  obtain ⟨base, wb, mb, lv, rv, n, D, qs, hP, hn, hR, hM, hl, hd, hW, hq, hI⟩ := h
  obtain ⟨hold, ms, row, es, s⟩ := p
  simp only at *
  subst hq
  have hnd := hR.nd
  obtain ⟨c0, c1, c2, c3, f2, f3, hpl⟩ := hP.cells
  have hap := hP.apart
  have hdue := hid (due_l (M := WM wb mb) (⟨mb, n, D, hP.wh, hR, hn, fun b h => h, fun b h => h.elim (fun e => e ▸ hP.wh.lt.1) (fun e => e ▸ hP.wh.lt.2)⟩ : WhM w (WM wb mb) wb es s) hs (by omega) now)
  have hbd := fun e he => (hR.bd e he).1
  have key : ∀ w1 v, IntsAt (fun b => w.heap.size ≤ b) w1 v (keysE (es.filter (lateE now))) → WhM w1 (WM wb mb) wb (es.filter (fun e => !lateE now e)) s → Chg (WM wb mb) w w1 →
      Calls Try.prog 37 #[.pointer (some ⟨pb, 0, none⟩), v] w1 fun e w2 => e = .returned (.tuple #[]) ∧ IntsAt (fun b => w.heap.size ≤ b) w2 v (keysE (es.filter (lateE now))) ∧ PortF w2 M W pb (expP ⟨hold, qs.map Prod.snd, row, es, s⟩ now) ∧ Chg M w w2 := by
    intro w1 v hv hwh hc1
    obtain ⟨mb', n', D', hA, hR', hn', hWM', hlt'⟩ := hwh
    have hmb' : mb' = wb ∨ mb' = mb := hWM' mb' (.inr rfl)
    have hPM : ∀ b, PMut pb wb mb' lv rv b → PMut pb wb mb lv rv b := fun b hb => by
      rcases hb with hb | hb | hb | hb | hb
      · exact .inl hb
      · exact .inr (.inl hb)
      · rcases hmb' with h | h
        · exact .inr (.inl (hb.trans h))
        · exact .inr (.inr (.inl (hb.trans h)))
      · exact .inr (.inr (.inr (.inl hb)))
      · exact .inr (.inr (.inr (.inr hb)))
    have k1 : ∀ b, b < w.heap.size → b ≠ wb → b ≠ mb → w1.heap[b]? = w.heap[b]? := fun b hb h1 h2 => hc1.block b hb (fun h => h.elim h1 h2)
    have hc1M : Chg M w w1 := hc1.mono (fun b hb => hM b (hb.elim (fun h => .inr (.inl h)) (fun h => .inr (.inr (.inl h)))))
    have hP1 : PortAt w1 0 pb wb mb' hold lv rv qs row n' D' s := by
      refine ⟨hP.at_.of (k1 pb hpl hap.1 hap.2.1), hA, K.own_mono (K.own_of hP.l (fun b e => k1 b (K.own_lt hP.l e) (hap.2.2.2.1 b e).2.1 (hap.2.2.2.1 b e).2.2)) (Nat.zero_le _), K.own_mono (K.own_of hP.row (fun b e => k1 b (K.own_lt hP.row e) (hap.2.2.2.2.1 b e).2.1 (hap.2.2.2.2.1 b e).2.2)) (Nat.zero_le _), ?_, ⟨Nat.zero_le _, Nat.zero_le _, Nat.zero_le _⟩⟩
      refine WordsIn.mono (hP.words.kept hc1.size (fun b hb hlt => k1 b hlt (fun e => hb (.inr (.inl e))) (fun e => hb (.inr (.inr (.inl e)))))) (fun b hb _ hm => hb (hPM b hm))
    have hz : IntsAt (fun b => ¬ PMut pb wb mb' lv rv b) w1 v (keysE (es.filter (lateE now))) := hv.mono (fun b hb _ hm => by have := hP.mut_lt (hPM b hm); omega)
    refine (away_c hP1 hz (fun z hz => ?_)).mono ?_
    · obtain ⟨e, he, rfl⟩ := List.mem_map.1 hz
      exact hbd e (List.mem_filter.1 he).1
    rintro e w2 ⟨rfl, rv', hP2, hc2, hrv⟩
    have hc2M : Chg M w1 w2 := hc2.mono (fun b hb => hM b (hPM b hb))
    have hCM : Chg M w w2 := hc1M.trans hc2M (fun _ h => .inl h)
    refine ⟨rfl, hv.kept hc2.size (fun b hb hlt => hc2.block b hlt (fun hm => by have := hP.mut_lt (hPM b hm); omega)), ?_, hCM⟩
    have hRf := WRel.fold (keysE (es.filter (lateE now))) hR'
    have hes : (keysE (es.filter (lateE now))).foldl (fun l z => rmE z l) (es.filter (fun e => !lateE now e)) = es.filter (fun e => !lateE now e) := by
      rw [foldRm, List.filter_eq_self]
      intro e he
      obtain ⟨h1, h2⟩ := List.mem_filter.1 he
      rw [keys_part hnd (lateE now) h1]
      exact h2
    rw [hes] at hRf
    exact ⟨0, wb, mb', lv, rv', n', _, qs, hP2, hn', hRf, fun b hb => hM b (hPM b (by
      rcases hb with hb | hb | hb | hb | hb
      · exact .inl hb
      · exact .inr (.inl hb)
      · exact .inr (.inr (.inl hb))
      · exact .inr (.inr (.inr (.inl hb)))
      · exact .inr (.inr (.inr (.inr (hrv b hb)))))), fun b hb => by have := hl b hb; have := hCM.size; omega, hd, hW.kept hCM.size (fun b hb hlt => hCM.block b hlt (fun hm => hd b hm hb)), rfl, hI.exp hnd now⟩
  replace key := hid key
  go_enter Try.func13, Try.ntmps13
  go_wp2_with (first | (go_at_call 39; (with_reducible refine (hdue.out).mono ?_); rintro e w1 ⟨v, rfl, hv, hwh, hc1⟩; obtain ⟨av, cv, rfl⟩ := hv.shape; have hk := hid (key.out _ _ hv hwh hc1)) | (go_at_call 37; (with_reducible refine (hk.out).mono ?_); rintro e w2 ⟨rfl, hv2, hP2, hC2⟩; have hv2 := hid hv2; have hP2 := hid hP2; have hC2 := hid hC2))
  go_ret
  exact ⟨_, rfl, hv2.out, hP2.out, hC2.out⟩
/-- What Flush tells and leaves: the told rows are to be read at once. -/
def FlushX (w : World) (M W : Nat → Prop) (pb : Nat) (p : Prt) (e : Ending) (w' : World) : Prop :=
  ∃ a c b d qs, e = .returned (.tuple #[.slice a p.ms.length c, .slice b p.row.length d]) ∧ qs.map Prod.snd = p.ms ∧ MsgsAt (fun _ => True) (fun _ => True) w' (.slice a p.ms.length c) qs ∧ IntsAt (fun b => w.heap.size ≤ b) w' (.slice b p.row.length d) p.row ∧ PortF w' M W pb (flushP p) ∧ Chg M w w'
set_option maxHeartbeats 1000000 in
set_option maxRecDepth 100000 in
theorem flush_x (h : PortF w M W pb p) (hxl : p.row.length ≤ 17592186044416) : Calls Try.prog 21 #[.pointer (some ⟨pb, 0, none⟩)] w (FlushX w M W pb p) := by
  have hints := h.ints
  unfold FlushX
  obtain ⟨base, wb, mb, lv, rv, n, D, qs, hP, hn, hR, hM, hl, hd, hW, hq, hI⟩ := h
  obtain ⟨hold, ms, row, es, s⟩ := p
  simp only at *
  subst hq
  have hap := hP.apart
  have hrw := hid (IntsAt.of_own hP.row)
  have hll := hid hP.l
  have hrr := hid hP.row
  obtain ⟨al, cl, rfl⟩ := own_shape hP.l
  obtain ⟨ar, cr, rfl⟩ := own_shape hP.row
  have hpp := hid hP.at_
  have key : ∀ u v, Below w.heap.size w u → IntsAt (fun b => w.heap.size ≤ b) u v row → Calls Try.prog 37 #[.pointer (some ⟨pb, 0, none⟩), v] (u.setCell ⟨pb, 2, none⟩ (.slice none 0 0)) fun e w2 => e = .returned (.tuple #[]) ∧ MsgsAt (fun _ => True) (fun _ => True) w2 (.slice al qs.length cl) qs ∧ IntsAt (fun b => w.heap.size ≤ b) w2 v row ∧ PortF w2 M W pb (flushP ⟨hold, qs.map Prod.snd, row, es, s⟩) ∧ Chg M w w2 := by
    intro u v hb hv
    have hPu := hP.below hb
    have hc1 : Chg (fun b => b = pb) u (u.setCell ⟨pb, 2, none⟩ (.slice none 0 0)) := (Chg.refl _ _).setB rfl
    have hpl := hPu.at_.lt
    have hset := hPu.at_.set 2 (.slice none 0 0)
    simp only [List.set_cons_zero, List.set_cons_succ] at hset
    have h1 : PortAt (u.setCell ⟨pb, 2, none⟩ (.slice none 0 0)) base pb wb mb hold (.slice none 0 0) (.slice ar row.length cr) [] row n D s := by
      refine ⟨hset, hPu.wh.kept (hc1.block wb hPu.wh.lt.1 hap.1.symm) (hc1.block mb hPu.wh.lt.2 hap.2.1.symm), World.ownsRow_nil _ _ _ _, K.own_of hPu.row (fun b e => hc1.block b (K.own_lt hPu.row e) (hap.2.2.2.2.1 b e).1), WordsIn.nil _ _, hP.ge⟩
    have hnp : ∀ b, PMut pb wb mb (.slice none 0 0) (.slice ar row.length cr) b → PMut pb wb mb (.slice al qs.length cl) (.slice ar row.length cr) b := fun b hb => by
      rcases hb with hb | hb | hb | hb | hb
      · exact .inl hb
      · exact .inr (.inl hb)
      · exact .inr (.inr (.inl hb))
      · cases hb
      · exact .inr (.inr (.inr (.inr hb)))
    have hv1 : IntsAt (fun b => w.heap.size ≤ b) (u.setCell ⟨pb, 2, none⟩ (.slice none 0 0)) v row := hv.kept hc1.size (fun b hb' hlt => hc1.block b hlt (fun e => by have := hP.at_.lt; omega))
    refine (away_c h1 (hv1.mono (fun b hb' _ hm => by have := hP.mut_lt (hnp b hm); omega)) hints).mono ?_
    rintro e w2 ⟨rfl, rv', hP2, hc2, hrv⟩
    have hlo : ∀ b, (Value.slice al qs.length cl).ownBlock = some b → ¬ PMut pb wb mb (.slice none 0 0) (.slice ar row.length cr) b := fun b e hm => by
      have h3 := hap.2.2.2.1 b e
      rcases hm with hm | hm | hm | hm | hm
      · exact h3.1 hm
      · exact h3.2.1 hm
      · exact h3.2.2 hm
      · cases hm
      · exact hap.2.2.2.2.2 b e hm
    have hl2 : w2.ownsRow base 27 5 (.slice al qs.length cl) qs.length (flat encM qs) := K.own_of hPu.l (fun b e => (hc2.block b (by have := K.own_lt hPu.l e; have := hc1.size; omega) (hlo b e)).trans (hc1.block b (K.own_lt hPu.l e) (fun e2 => hlo b e (.inl e2))))
    have hCM : Chg M w w2 := ((Chg.of_below hb : Chg M w u).trans (hc1.mono (M' := M) (fun b hb' => by subst hb'; exact hM _ (.inl rfl))) (fun _ h => .inl h)).trans (hc2.mono (fun b hb' => hM b (hnp b hb'))) (fun _ h => .inl h)
    have hRf := WRel.fold row hR
    have hes : row.foldl (fun l z => rmE z l) es = [] := by
      rw [foldRm, List.filter_eq_nil_iff]
      intro e he
      have : e.k ∈ row := hI.perm.mem_iff.2 (List.mem_map.2 ⟨e, he, rfl⟩)
      simp [this]
    have hrw : row.foldl butT row = [] := by
      rw [foldBut, List.filter_eq_nil_iff]
      intro e he
      simp [he]
    rw [hes] at hRf
    rw [hrw] at hP2
    refine ⟨rfl, (MsgsAt.of_own hl2 (hW.kept hCM.size (fun b hb' hlt => hCM.block b hlt (fun hm => hd b hm hb')))).mono (fun _ _ _ => trivial) (fun _ _ _ => trivial), hv1.kept hc2.size (fun b hb' hlt => hc2.block b hlt (fun hm => by have := hP.mut_lt (hnp b hm); omega)), ?_, hCM⟩
    exact ⟨base, wb, mb, _, rv', n, _, [], hP2, hn, hRf, fun b hb' => hM b (by
      rcases hb' with hb' | hb' | hb' | hb' | hb'
      · exact .inl hb'
      · exact .inr (.inl hb')
      · exact .inr (.inr (.inl hb'))
      · cases hb'
      · exact .inr (.inr (.inr (.inr (hrv b hb'))))), fun b hb' => by have := hl b hb'; have := hCM.size; omega, hd, WordsIn.nil _ _, rfl, ⟨.inl rfl, by have h1 : (1 : Int) ≤ hold := hI.hold.1; show ((0 : Nat) : Int) ≤ hold; omega, hI.hold, fun m hm => (by cases hm), List.Perm.refl _⟩⟩
  replace key := hid key
  replace hxl := hid hxl
  clear hints hap hn hR hM hl hd hW hI hP
  go_enter Try.func21, Try.ntmps21
  go_upto_region 3 with fail
  -- REG (*empennage/queue.Port).Flush|3|flush.3
  refine region_tab 11 [Sp.eq (.pointer (some ⟨pb, 0, none⟩)), Sp.eq (.pointer (some ⟨pb, 0, none⟩)), Sp.eq (.pointer (some ⟨pb, 2, none⟩)), Sp.eq (.slice al qs.length cl), Sp.eq (.pointer (some ⟨pb, 0, none⟩)), Sp.eq (.pointer (some ⟨pb, 0, none⟩)), Sp.eq (.pointer (some ⟨pb, 3, none⟩)), Sp.eq (.slice ar row.length cr), Sp.of (fun v u => IntsAt (fun b => w.heap.size ≤ b) u v row) (fun v w w' h hb => IntsAt.below h hb), Sp.eq (.slice al qs.length cl), Sp.of (fun v u => IntsAt (fun b => w.heap.size ≤ b) u v row) (fun v w w' h hb => IntsAt.below h hb)] (fun _ _ _ _ _ h => h) (by kernel_rfl) (by kernel_rfl) ⟨?_, ?_, ?_, ?_, ?_, ?_, ?_, ?_, ?_, ?_, ?_, trivial⟩ ?_
  · intro ac gs u hb hg h
    have e0 : ac.tmps[0]?.getD undef = .pointer (some ⟨pb, 0, none⟩) := h.inm 0 rfl rfl
    refine opFree rfl ?_
    exact relMoveT _ rfl e0 (okP hg rfl)
  · intro ac gs u hb hg h
    have e8 : ac.tmps[8]?.getD undef = .pointer (some ⟨pb, 0, none⟩) := h.tm 0 8 rfl rfl
    refine opFree rfl ?_
    exact relRun (v := .pointer (some ⟨pb, 0, none⟩)) (w' := u) (by simp [go_sem, e8]) (okP hg rfl)
  · intro ac gs u hb hg h
    have e9 : ac.tmps[9]?.getD undef = .pointer (some ⟨pb, 0, none⟩) := h.tm 1 9 rfl rfl
    refine opFree rfl ?_
    exact relRun (v := .pointer (some ⟨pb, 2, none⟩)) (w' := u) (by simp [go_sem, e9]) (okP hg rfl)
  · intro ac gs u hb hg h
    have e10 : ac.tmps[10]?.getD undef = .pointer (some ⟨pb, 2, none⟩) := h.tm 2 10 rfl rfl
    refine opFree rfl ?_
    exact relRun (v := .slice al qs.length cl) (w' := u) (by simp [go_sem, e10, ((hpp.out.below hb).cell 2)]) (okP hg rfl)
  · intro ac gs u hb hg h
    have e0 : ac.tmps[0]?.getD undef = .pointer (some ⟨pb, 0, none⟩) := h.inm 0 rfl rfl
    refine opFree rfl ?_
    exact relMoveT _ rfl e0 (okP hg rfl)
  · intro ac gs u hb hg h
    have e12 : ac.tmps[12]?.getD undef = .pointer (some ⟨pb, 0, none⟩) := h.tm 4 12 rfl rfl
    refine opFree rfl ?_
    exact relRun (v := .pointer (some ⟨pb, 0, none⟩)) (w' := u) (by simp [go_sem, e12]) (okP hg rfl)
  · intro ac gs u hb hg h
    have e13 : ac.tmps[13]?.getD undef = .pointer (some ⟨pb, 0, none⟩) := h.tm 5 13 rfl rfl
    refine opFree rfl ?_
    exact relRun (v := .pointer (some ⟨pb, 3, none⟩)) (w' := u) (by simp [go_sem, e13]) (okP hg rfl)
  · intro ac gs u hb hg h
    have e14 : ac.tmps[14]?.getD undef = .pointer (some ⟨pb, 3, none⟩) := h.tm 6 14 rfl rfl
    refine opFree rfl ?_
    exact relRun (v := .slice ar row.length cr) (w' := u) (by simp [go_sem, e14, ((hpp.out.below hb).cell 3)]) (okP hg rfl)
  · intro ac gs u hb hg h
    have e15 : ac.tmps[15]?.getD undef = .slice ar row.length cr := h.tm 7 15 rfl rfl
    refine opFree rfl ?_
    refine relCall (f := _) (args := #[.slice ar row.length cr]) (by simp [go_sem, e15]; rfl) ?_
    refine (clone_c (hrw.out.below hb) hxl.out).mono ?_
    rintro e w' ⟨v', rfl, hi, hb'⟩
    exact ⟨_, rfl, okB hg hb' (hi.mono (fun b h _ => Nat.le_trans hb.size h))⟩
  · intro ac gs u hb hg h
    have e11 : ac.tmps[11]?.getD undef = .slice al qs.length cl := h.tm 3 11 rfl rfl
    refine opFree rfl ?_
    exact relAssignT _ rfl e11 (okP hg rfl)
  · intro ac gs u hb hg h
    have e16 := h.tm 8 16 rfl rfl
    refine opFree rfl ?_
    exact relAssignT _ rfl rfl (okP hg e16)
  intro vs gs u hb hg hr
  have r0 : vs 0 = .pointer (some ⟨pb, 0, none⟩) := hr 0 (by decide)
  have r1 : vs 1 = .pointer (some ⟨pb, 0, none⟩) := hr 1 (by decide)
  have r2 : vs 2 = .pointer (some ⟨pb, 2, none⟩) := hr 2 (by decide)
  have r3 : vs 3 = .slice al qs.length cl := hr 3 (by decide)
  have r4 : vs 4 = .pointer (some ⟨pb, 0, none⟩) := hr 4 (by decide)
  have r5 : vs 5 = .pointer (some ⟨pb, 0, none⟩) := hr 5 (by decide)
  have r6 : vs 6 = .pointer (some ⟨pb, 3, none⟩) := hr 6 (by decide)
  have r7 : vs 7 = .slice ar row.length cr := hr 7 (by decide)
  have r8 := hr 8 (by decide)
  have r9 : vs 9 = .slice al qs.length cl := hr 9 (by decide)
  have r10 := hr 10 (by decide)
  obtain ⟨a8, c8, e8⟩ := IntsAt.shape r8
  obtain ⟨a10, c10, e10⟩ := IntsAt.shape r10
  rw [e10] at r10
  simp only [List.take_succ_cons, List.take_zero, List.drop_succ_cons, List.drop_zero, putOps, r0, r1, r2, r3, r4, r5, r6, r7, r9, e8, e10]
  simp only [Act.put, List.setIfInBounds_toArray, List.set_cons_succ, List.set_cons_zero]
  clear hr r0 r1 r2 r3 r4 r5 r6 r7 r9 e8 e10
  refine wpList_nil ?_
  -- GER
  have hk := hid (key.out u _ hb r10)
  have hpu := hpp.out.below hb
  have y2 := hpu.cell 2
  have yl := hpu.lt
  have yf := hpu.frozen
  clear hb hg hpu r10 r8
  go_wp2_with (first | (go_at_call 37; (with_reducible refine (hk.out).mono ?_); rintro e w2 ⟨rfl, hms, hv2, hP2, hC2⟩; have hms := hid hms; have hv2 := hid hv2; have hP2 := hid hP2; have hC2 := hid hC2))
  have hlen : (qs.map Prod.snd).length = qs.length := by simp
  refine bodyPost_ret (v := .tuple #[.slice al qs.length cl, .slice a10 row.length c10]) (by simp [results, Try.results21, go_sem]) rfl ⟨al, cl, a10, c10, qs, by rw [hlen], rfl, by rw [hlen]; exact hms.out, hv2.out, hP2.out, hC2.out⟩
end
end Go.Proofs.Ytnlmkllhmldgiaa.Qu
