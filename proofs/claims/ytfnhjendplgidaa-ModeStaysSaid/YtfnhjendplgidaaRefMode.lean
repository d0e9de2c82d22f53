/- DERIVED. The walks over the reference of modes: each does what the plain lists say. -/
import Derived.Test.YtfnhjendplgidaaModeW2
import Derived.Test.YtfnhjendplgidaaRef01
namespace Go.Proofs.Ytfnhjendplgidaa.Rm
open Go.RowKit Go.Proofs.Ytfnhjendplgidaa.K Go.Proofs.Ytfnhjendplgidaa.Md

def RefAt (ok : Nat → Prop) (w : World) (v : Value) (s : List Part) : Prop :=
  ∃ va vm vs, v = .agg #[va, vm, vs] ∧ IntsAt ok w va (s.map Part.a) ∧ IntsAt ok w vm (s.map Part.m) ∧ IntsAt ok w vs (s.map Part.s)
theorem RefAt.kept {ok : Nat → Prop} {w w' : World} {v : Value} {s : List Part} (h : RefAt ok w v s) (hs : w.heap.size ≤ w'.heap.size) (hk : ∀ b, ok b → b < w.heap.size → w'.heap[b]? = w.heap[b]?) : RefAt ok w' v s :=
  let ⟨va, vm, vs, e, h1, h2, h3⟩ := h; ⟨va, vm, vs, e, h1.kept hs hk, h2.kept hs hk, h3.kept hs hk⟩
theorem RefAt.mono {ok ok' : Nat → Prop} {w : World} {v : Value} {s : List Part} (h : RefAt ok w v s) (hk : ∀ b, ok b → b < w.heap.size → ok' b) : RefAt ok' w v s :=
  let ⟨va, vm, vs, e, h1, h2, h3⟩ := h; ⟨va, vm, vs, e, h1.mono hk, h2.mono hk, h3.mono hk⟩
theorem RefAt.below {ok : Nat → Prop} {w w' : World} {v : Value} {s : List Part} (h : RefAt ok w v s) (hb : Below w.heap.size w w') : RefAt ok w' v s := h.kept hb.size (fun b _ hb' => hb.block b hb')

def InB (s : List Part) (i : Int) : Bool := decide (0 ≤ i) && decide (i < s.length)
theorem is_c {ok : Nat → Prop} {w : World} {v : Value} {s : List Part} (h : RefAt ok w v s) (i : Int) : Calls Try.prog 26 #[v, .int .i64 i] w fun e w' => e = .returned (.bool (InB s i)) ∧ Below w.heap.size w w' := by
  obtain ⟨va, vm, vs, rfl, h1, h2, h3⟩ := h
  obtain ⟨a1, c1, rfl⟩ := h1.shape
  obtain ⟨a2, c2, rfl⟩ := h2.shape
  obtain ⟨a3, c3, rfl⟩ := h3.shape
  simp only [List.length_map]
  by_cases h0 : 0 ≤ i
  · go_enter Try.func26, Try.ntmps26
    go_wp2
    go_ret
    exact ⟨rbool (by simp [InB, h0]), (Below.refl _ _).alloc (Nat.le_refl _) _⟩
  · have h0' : decide (0 ≤ i) = false := by simp [h0]
    have h0'' : i < 0 := by omega
    clear h0
    go_enter Try.func26, Try.ntmps26
    go_wp2
    go_ret
    exact ⟨rbool (by simp [InB, h0']), (Below.refl _ _).alloc (Nat.le_refl _) _⟩

def WithPost (ok : Nat → Prop) (w : World) (va vs : Value) (l : List Int) (e : Ending) (w' : World) : Prop :=
  ∃ v', e = .returned (.agg #[va, v', vs]) ∧ IntsAt (fun b => w.heap.size ≤ b) w' v' l ∧ Below w.heap.size w w'
theorem with_c {ok : Nat → Prop} {w : World} {va vm vs : Value} {na ca ns cs : Nat} {aa as_ : Option Addr} {ms : List Int} (ha : va = .slice aa na ca) (hs : vs = .slice as_ ns cs) (hm : IntsAt ok w vm ms) (i : Nat) (hi : i < ms.length) (hl : ms.length ≤ 4) (y : Int) :
    Calls Try.prog 27 #[.agg #[va, vm, vs], .int .i64 i, .int .i64 y] w (WithPost ok w va vs (ms.set i y)) := by
  subst ha hs
  obtain ⟨a2, c2, rfl⟩ := hm.shape
  have hq : ∀ o1 o2 : Obj, Below w.heap.size w ((w.alloc o1).alloc o2) := fun o1 o2 => ((Below.refl w.heap.size w).alloc (Nat.le_refl _) _).alloc (by simp) _
  have hqs : ∀ o1 o2 : Obj, w.heap.size + 2 ≤ ((w.alloc o1).alloc o2).heap.size := fun o1 o2 => by simp
  have hqi : ∀ o1 o2 : Obj, IntsAt ok ((w.alloc o1).alloc o2) (.slice a2 ms.length c2) ms := fun o1 o2 => hm.below (hq o1 o2)
  have hq3 : 0 + ms.length ≤ 17592186044416 := by omega
  have hq1 := hid hq
  have hq2 := hid hqi
  have hq0 := hid hqs
  clear hq hqi hqs
  go_enter Try.func27, Try.ntmps27
  go_wp2_with (at_builtin; refine wpList_pushInts rfl (.tmp 8) (.tmp 10) 22 rfl elInt rfl (World.ownsRow_nil _ (w.heap.size + 2) _ _) (hq1.out _ _) (Nat.le_add_right _ 2) (hq0.out _ _) rfl (hq2.out _ _) hq3 ?_; intro v' w1 hown1 hb1 hg1 _; obtain ⟨g', cap', ex', rfl, hgb, hpg, hnc, hcm⟩ := own_split hown1 (by omega); have hpg : pts w1 g' (ms.map (Value.int .i64) ++ ex') 3 := hpg; have cg := hpg.int i hi; have fg := hpg.frozen i; have gl := hpg.lt; obtain ⟨hc, hf, hz⟩ := bcellN (w.heap.size + 2) (by simp) (below_of_none hg1); have hgne2 : w.heap.size ≠ g' := (by omega); have hgne3 : w.heap.size + 1 ≠ g' := (by omega))
  refine bodyPost_ret (v := .agg #[.slice aa na ca, .slice (some ⟨g', 0, none⟩) ms.length cap', .slice as_ ns cs]) (by simp [results, Try.results27, go_sem, hc, hz, hgne2, hgne3]) rfl ⟨_, rfl, ?_, ?_⟩
  · have hp := ((((hpg.set i (.int .i64 y)).set_ne (a := ⟨w.heap.size, 1, none⟩) (Ne.symm hgne2) (.slice (some ⟨g', 0, none⟩) ms.length cap')).set_ne (a := ⟨w.heap.size + 1, 0, none⟩) (Ne.symm hgne3) (.slice aa na ca)).set_ne (a := ⟨w.heap.size + 1, 1, none⟩) (Ne.symm hgne3) (.slice (some ⟨g', 0, none⟩) ms.length cap')).set_ne (a := ⟨w.heap.size + 1, 2, none⟩) (Ne.symm hgne3) (.slice as_ ns cs)
    rw [map_set_ex _ _ _ _ hi] at hp
    have h2 := IntsAt.of_pts (ok := fun b => w.heap.size ≤ b) (cap := cap') hp (by omega) (by simp; omega) hcm
    simpa using h2
  · exact ((((hb1.setCell (by simp; omega) _).setCell (by simp) _).setCell (by simp) _).setCell (by simp) _).setCell (by simp) _

def Post1 (ok : Nat → Prop) (w : World) (s : List Part) (r : List Value) (e : Ending) (w' : World) : Prop :=
  ∃ v', e = .returned (.tuple (v' :: r).toArray) ∧ RefAt (fun b => ok b ∨ w.heap.size ≤ b) w' v' s ∧ Below w.heap.size w w'
theorem InB_out {s : List Part} {i : Int} (h : i < 0 ∨ (s.length : Int) ≤ i) : InB s i = false := by unfold InB; simp; omega
theorem InB_in {s : List Part} {k : Nat} (h : k < s.length) : InB s k = true := by unfold InB; simp; omega

set_option maxHeartbeats 1000000 in
theorem fault_c {ok : Nat → Prop} {w : World} {v : Value} {s : List Part} (h : RefAt ok w v s) (hl : s.length ≤ 4) (i : Int) :
    Calls Try.prog 16 #[v, .int .i64 i] w (Post1 ok w (faultM s i).1 [.int .i64 (faultM s i).2.1, .int .i64 (faultM s i).2.2]) := by
  have h0 := h
  obtain ⟨va, vm, vs, rfl, h1, h2, h3⟩ := h
  obtain ⟨a1, c1, rfl⟩ := h1.shape
  obtain ⟨a2, c2, rfl⟩ := h2.shape
  obtain ⟨a3, c3, rfl⟩ := h3.shape
  simp only [List.length_map] at h0 h1 h2 h3 ⊢
  have hq := hid (fun o1 o2 : Obj => (((Below.refl w.heap.size w).alloc (Nat.le_refl _) o1).alloc (by simp) o2))
  have hb0 := hid h0
  have hnx : ∀ (o1 o2 : Obj) (w1 : World), Below ((w.alloc o1).alloc o2).heap.size ((w.alloc o1).alloc o2) w1 → Below w.heap.size w w1 := fun o1 o2 w1 h => Below.next (hq.out o1 o2) h (by simp; omega)
  have hnx' := hid hnx
  clear hnx
  rcases cases s i with hi | ⟨k, rfl, hk⟩
  · rw [faultM, at?_out hi]
    have hin := InB_out hi
    go_enter Try.func16, Try.ntmps16
    go_wp2_with (go_at_call 26; refine (is_c (hb0.out.below (hq.out _ _)) _).mono ?_; rintro e w1 ⟨rfl, hb1⟩; rw [hin]; obtain ⟨hc, hf, hz⟩ := bcellN (w.heap.size + 2) (by simp) hb1)
    have hB := ((((hnx'.out _ _ _ hb1).setCell (p := ⟨w.heap.size + 1, 0, none⟩) (by simp) (.slice a1 s.length c1)).setCell (p := ⟨w.heap.size + 1, 1, none⟩) (by simp) (.slice a2 s.length c2)).setCell (p := ⟨w.heap.size + 1, 2, none⟩) (by simp) (.slice a3 s.length c3))
    refine bodyPost_ret (v := .tuple #[.agg #[.slice a1 s.length c1, .slice a2 s.length c2, .slice a3 s.length c3], .int .i64 0, .int .i64 7]) (by simp [results, Try.results16, go_sem, hc, hz]) rfl ⟨_, rfl, (hb0.out.below hB).mono (fun b h _ => .inl h), hB⟩
  · rw [faultM, at?_in hk]
    have hin := InB_in hk
    obtain ⟨-, -, -, gm⟩ := h2.get
    obtain ⟨g, o, ra2, _, hg, cm⟩ := gm k (by simpa using hk)
    subst ra2
    simp only [List.getElem_map] at cm
    obtain ⟨-, -, -, ga⟩ := h1.get
    obtain ⟨g', o', ra1, _, hg', ca⟩ := ga k (by simpa using hk)
    subst ra1
    simp only [List.getElem_map] at ca
    clear ga gm
    have hne1 : w.heap.size + 1 ≠ g' := by omega
    have hne2 : w.heap.size ≠ g' := by omega
    by_cases hm : s[k].m = 0
    · simp only [hm, if_true]
      rw [hm] at cm
      have hm1 := hid hm
      clear hm
      have i0 : (0 : Int) ≤ (k : Int) := by omega
      have i1 : (k : Int) < (s.length : Int) := by omega
      go_enter Try.func16, Try.ntmps16
      go_wp2_with (go_at_call 26; refine (is_c (hb0.out.below (hq.out _ _)) _).mono ?_; rintro e w1 ⟨rfl, hb1⟩; rw [hin]; obtain ⟨hc, hf, hz⟩ := bcellN (w.heap.size + 2) (by simp) hb1; have cm1 := ((hnx'.out _ _ _ hb1).cell (p := ⟨g, o + k, none⟩) hg).trans cm; have ca1 := ((hnx'.out _ _ _ hb1).cell (p := ⟨g', o' + k, none⟩) hg').trans ca)
      go_region_held3 (fun W => W.cell? ⟨w.heap.size, 0, none⟩ = some (.slice (some ⟨g', o', none⟩) s.length c1) ∧ W.cell? ⟨w.heap.size, 1, none⟩ = some (.slice (some ⟨g, o, none⟩) s.length c2) ∧ W.cell? ⟨w.heap.size, 2, none⟩ = some (.slice a3 s.length c3) ∧ W.cell? ⟨g', o' + k, none⟩ = some (.int .i64 s[k].a))
        (first | go_keep | ((try dsimp only); (repeat' apply And.intro) <;> go_keep))
        ((go_at_call 27; refine (with_c rfl rfl (h2.below (hnx'.out _ _ _ hb1).drew) k (by simpa using hk) (by simpa using hl) _).mono ?_; rintro e w2 ⟨v', rfl, hv', hb2⟩; obtain ⟨hc2, hf2, hz2⟩ := bcellLe (w.heap.size + 2) (show w.heap.size + 2 ≤ w1.drew.heap.size from hz) hb2; have ca2 := ((hb2.cell (p := ⟨g', o' + k, none⟩) (show g' < w1.drew.heap.size from Nat.lt_of_lt_of_le hg' (hnx'.out _ _ _ hb1).size)).trans ca1); obtain ⟨av, cv, rfl⟩ := hv'.shape))
      go_wp2
      have hb12 := Below.next (hnx'.out _ _ _ hb1).drew hb2 (hnx'.out _ _ _ hb1).size
      have hB := (((hb12.setCell (p := ⟨w.heap.size + 1, 0, none⟩) (by simp) (.slice (some ⟨g', o', none⟩) s.length c1)).setCell (p := ⟨w.heap.size + 1, 1, none⟩) (by simp) (.slice av s.length cv)).setCell (p := ⟨w.heap.size + 1, 2, none⟩) (by simp) (.slice a3 s.length c3))
      have hgt : ∀ c, w1.drew.heap.size ≤ c → c ≠ w.heap.size + 1 := fun c h e => by have h' : w1.heap.size ≤ c := h; omega
      refine bodyPost_ret (v := .tuple #[.agg #[.slice (some ⟨g', o', none⟩) s.length c1, .slice av s.length cv, .slice a3 s.length c3], .int .i64 s[k].a, .int .i64 0]) (by simp [results, Try.results16, go_sem, hc, hz, hc2, hz2]) rfl ⟨_, rfl, ⟨_, _, _, rfl, ?_, ?_, ?_⟩, hB⟩
      · rw [show (s.set (k : Int).toNat { s[k] with m := s[k].a }).map Part.a = s.map Part.a from map_a_m hk _]; exact (h1.below hB).mono (fun b h _ => .inl h)
      · rw [show (s.set (k : Int).toNat { s[k] with m := s[k].a }).map Part.m = (s.map Part.m).set k s[k].a from List.map_set ..]
        have h5 := ((hv'.set (b := w.heap.size + 1) (o := 0) (u := .slice (some ⟨g', o', none⟩) s.length c1) hgt).set (b := w.heap.size + 1) (o := 1) (u := .slice av s.length cv) hgt).set (b := w.heap.size + 1) (o := 2) (u := .slice a3 s.length c3) hgt
        have hs5 : w.heap.size ≤ w1.drew.heap.size := (hnx'.out _ _ _ hb1).size
        exact (by simpa using h5 : IntsAt _ _ (.slice av s.length cv) _).mono (fun b h _ => .inr (Nat.le_trans hs5 h))
      · rw [show (s.set (k : Int).toNat { s[k] with m := s[k].a }).map Part.s = s.map Part.s from map_s_m hk _]; exact (h3.below hB).mono (fun b h _ => .inl h)
    · simp only [hm, if_false]
      have hd : (s[k].m == 0) = false := by simp [hm]
      clear hm
      go_enter Try.func16, Try.ntmps16
      go_wp2_with (go_at_call 26; refine (is_c (hb0.out.below (hq.out _ _)) _).mono ?_; rintro e w1 ⟨rfl, hb1⟩; rw [hin]; obtain ⟨hc, hf, hz⟩ := bcellN (w.heap.size + 2) (by simp) hb1; have cm1 := ((hnx'.out _ _ _ hb1).cell (p := ⟨g, o + k, none⟩) hg).trans cm)
      have hB := ((((hnx'.out _ _ _ hb1).setCell (p := ⟨w.heap.size + 1, 0, none⟩) (by simp) (.slice (some ⟨g', o', none⟩) s.length c1)).setCell (p := ⟨w.heap.size + 1, 1, none⟩) (by simp) (.slice (some ⟨g, o, none⟩) s.length c2)).setCell (p := ⟨w.heap.size + 1, 2, none⟩) (by simp) (.slice a3 s.length c3))
      refine bodyPost_ret (v := .tuple #[.agg #[.slice (some ⟨g', o', none⟩) s.length c1, .slice (some ⟨g, o, none⟩) s.length c2, .slice a3 s.length c3], .int .i64 0, .int .i64 5]) (by simp [results, Try.results16, go_sem, hc, hz]) rfl ⟨_, rfl, (hb0.out.below hB).mono (fun b h _ => .inl h), hB⟩
set_option maxHeartbeats 1000000 in
theorem again_c {ok : Nat → Prop} {w : World} {v : Value} {s : List Part} (h : RefAt ok w v s) (hl : s.length ≤ 4) (hwf : ∀ x ∈ s, x.wf) (i : Int) :
    Calls Try.prog 17 #[v, .int .i64 i] w (Post1 ok w (againM s i).1 [.int .i64 (againM s i).2]) := by
  have h0 := h
  obtain ⟨va, vm, vs, rfl, h1, h2, h3⟩ := h
  obtain ⟨a1, c1, rfl⟩ := h1.shape
  obtain ⟨a2, c2, rfl⟩ := h2.shape
  obtain ⟨a3, c3, rfl⟩ := h3.shape
  simp only [List.length_map] at h0 h1 h2 h3 ⊢
  have hq := hid (fun o1 o2 : Obj => (((Below.refl w.heap.size w).alloc (Nat.le_refl _) o1).alloc (by simp) o2))
  have hb0 := hid h0
  have hnx : ∀ (o1 o2 : Obj) (w1 : World), Below ((w.alloc o1).alloc o2).heap.size ((w.alloc o1).alloc o2) w1 → Below w.heap.size w w1 := fun o1 o2 w1 h => Below.next (hq.out o1 o2) h (by simp; omega)
  have hnx' := hid hnx
  clear hnx
  rcases cases s i with hi | ⟨k, rfl, hk⟩
  · rw [againM, at?_out hi]
    have hin := InB_out hi
    go_enter Try.func17, Try.ntmps17
    go_wp2_with (go_at_call 26; refine (is_c (hb0.out.below (hq.out _ _)) _).mono ?_; rintro e w1 ⟨rfl, hb1⟩; rw [hin]; obtain ⟨hc, hf, hz⟩ := bcellN (w.heap.size + 2) (by simp) hb1)
    have hB := ((((hnx'.out _ _ _ hb1).setCell (p := ⟨w.heap.size + 1, 0, none⟩) (by simp) (.slice a1 s.length c1)).setCell (p := ⟨w.heap.size + 1, 1, none⟩) (by simp) (.slice a2 s.length c2)).setCell (p := ⟨w.heap.size + 1, 2, none⟩) (by simp) (.slice a3 s.length c3))
    refine bodyPost_ret (v := .tuple #[.agg #[.slice a1 s.length c1, .slice a2 s.length c2, .slice a3 s.length c3], .int .i64 7]) (by simp [results, Try.results17, go_sem, hc, hz]) rfl ⟨_, rfl, (hb0.out.below hB).mono (fun b h _ => .inl h), hB⟩
  · rw [againM, at?_in hk]
    have hin := InB_in hk
    obtain ⟨-, -, -, gm⟩ := h2.get
    obtain ⟨g, o, ra2, _, hg, cm⟩ := gm k (by simpa using hk)
    subst ra2
    simp only [List.getElem_map] at cm
    clear gm
    rcases (hwf _ (List.getElem_mem hk)).2 with hm | hm | hm
    · simp only [hm, if_true, if_false, show ¬ ((0 : Int) = 1) by omega, show ¬ ((0 : Int) = 2) by omega]
      rw [hm] at cm
      have hm1 := hid hm
      clear hm
      go_enter Try.func17, Try.ntmps17
      go_wp2_with (first | (go_at_call 26; refine (is_c (hb0.out.below (hq.out _ _)) _).mono ?_; rintro e w1 ⟨rfl, hb1⟩; rw [hin]; obtain ⟨hc, hf, hz⟩ := bcellN (w.heap.size + 2) (by simp) hb1; have cm1 := ((hnx'.out _ _ _ hb1).cell (p := ⟨g, o + k, none⟩) hg).trans cm) | (go_at_call 27; refine (with_c rfl rfl (h2.below (hnx'.out _ _ _ hb1)) k (by simpa using hk) (by simpa using hl) _).mono ?_; rintro e w2 ⟨v', rfl, hv', hb2⟩; obtain ⟨hc2, hf2, hz2⟩ := bcellLe (w.heap.size + 2) hz hb2; obtain ⟨av, cv, rfl⟩ := hv'.shape))
      have hb12 := Below.next (hnx'.out _ _ _ hb1) hb2 (hnx'.out _ _ _ hb1).size
      have hB := (((hb12.setCell (p := ⟨w.heap.size + 1, 0, none⟩) (by simp) (.slice a1 s.length c1)).setCell (p := ⟨w.heap.size + 1, 1, none⟩) (by simp) (.slice av s.length cv)).setCell (p := ⟨w.heap.size + 1, 2, none⟩) (by simp) (.slice a3 s.length c3))
      have hgt : ∀ c, w1.heap.size ≤ c → c ≠ w.heap.size + 1 := fun c h e => by omega
      refine bodyPost_ret (v := .tuple #[.agg #[.slice a1 s.length c1, .slice av s.length cv, .slice a3 s.length c3], .int .i64 0]) (by simp [results, Try.results17, go_sem, hc, hz, hc2, hz2]) rfl ⟨_, rfl, ⟨_, _, _, rfl, ?_, ?_, ?_⟩, hB⟩
      · rw [show (s.set (k : Int).toNat { s[k] with m := 1 }).map Part.a = s.map Part.a from map_a_m hk _]; exact (h1.below hB).mono (fun b h _ => .inl h)
      · rw [show (s.set (k : Int).toNat { s[k] with m := 1 }).map Part.m = (s.map Part.m).set k 1 from List.map_set ..]
        have h5 := ((hv'.set (b := w.heap.size + 1) (o := 0) (u := .slice a1 s.length c1) hgt).set (b := w.heap.size + 1) (o := 1) (u := .slice av s.length cv) hgt).set (b := w.heap.size + 1) (o := 2) (u := .slice a3 s.length c3) hgt
        have hs5 : w.heap.size ≤ w1.heap.size := (hnx'.out _ _ _ hb1).size
        exact (by simpa using h5 : IntsAt _ _ (.slice av s.length cv) _).mono (fun b h _ => .inr (Nat.le_trans hs5 h))
      · rw [show (s.set (k : Int).toNat { s[k] with m := 1 }).map Part.s = s.map Part.s from map_s_m hk _]; exact (h3.below hB).mono (fun b h _ => .inl h)
    · simp only [hm, if_true, if_false, show ¬ ((1 : Int) = 2) by omega]
      rw [hm] at cm
      have hm1 := hid hm
      clear hm
      go_enter Try.func17, Try.ntmps17
      go_wp2_with (go_at_call 26; refine (is_c (hb0.out.below (hq.out _ _)) _).mono ?_; rintro e w1 ⟨rfl, hb1⟩; rw [hin]; obtain ⟨hc, hf, hz⟩ := bcellN (w.heap.size + 2) (by simp) hb1; have cm1 := ((hnx'.out _ _ _ hb1).cell (p := ⟨g, o + k, none⟩) hg).trans cm)
      have hB := ((((hnx'.out _ _ _ hb1).setCell (p := ⟨w.heap.size + 1, 0, none⟩) (by simp) (.slice a1 s.length c1)).setCell (p := ⟨w.heap.size + 1, 1, none⟩) (by simp) (.slice (some ⟨g, o, none⟩) s.length c2)).setCell (p := ⟨w.heap.size + 1, 2, none⟩) (by simp) (.slice a3 s.length c3))
      refine bodyPost_ret (v := .tuple #[.agg #[.slice a1 s.length c1, .slice (some ⟨g, o, none⟩) s.length c2, .slice a3 s.length c3], .int .i64 1]) (by simp [results, Try.results17, go_sem, hc, hz]) rfl ⟨_, rfl, (hb0.out.below hB).mono (fun b h _ => .inl h), hB⟩
    · simp only [hm, if_true]
      rw [hm] at cm
      have hm1 := hid hm
      clear hm
      go_enter Try.func17, Try.ntmps17
      go_wp2_with (go_at_call 26; refine (is_c (hb0.out.below (hq.out _ _)) _).mono ?_; rintro e w1 ⟨rfl, hb1⟩; rw [hin]; obtain ⟨hc, hf, hz⟩ := bcellN (w.heap.size + 2) (by simp) hb1; have cm1 := ((hnx'.out _ _ _ hb1).cell (p := ⟨g, o + k, none⟩) hg).trans cm)
      have hB := ((((hnx'.out _ _ _ hb1).setCell (p := ⟨w.heap.size + 1, 0, none⟩) (by simp) (.slice a1 s.length c1)).setCell (p := ⟨w.heap.size + 1, 1, none⟩) (by simp) (.slice (some ⟨g, o, none⟩) s.length c2)).setCell (p := ⟨w.heap.size + 1, 2, none⟩) (by simp) (.slice a3 s.length c3))
      refine bodyPost_ret (v := .tuple #[.agg #[.slice a1 s.length c1, .slice (some ⟨g, o, none⟩) s.length c2, .slice a3 s.length c3], .int .i64 5]) (by simp [results, Try.results17, go_sem, hc, hz]) rfl ⟨_, rfl, (hb0.out.below hB).mono (fun b h _ => .inl h), hB⟩

set_option maxHeartbeats 1000000 in
theorem up_c {ok : Nat → Prop} {w : World} {v : Value} {s : List Part} (h : RefAt ok w v s) (hl : s.length ≤ 4) (i : Int) :
    Calls Try.prog 19 #[v, .int .i64 i] w (Post1 ok w (upM s i).1 [.bool (upM s i).2]) := by
  have h0 := h
  obtain ⟨va, vm, vs, rfl, h1, h2, h3⟩ := h
  obtain ⟨a1, c1, rfl⟩ := h1.shape
  obtain ⟨a2, c2, rfl⟩ := h2.shape
  obtain ⟨a3, c3, rfl⟩ := h3.shape
  simp only [List.length_map] at h0 h1 h2 h3 ⊢
  have hq := hid (fun o1 o2 : Obj => (((Below.refl w.heap.size w).alloc (Nat.le_refl _) o1).alloc (by simp) o2))
  have hb0 := hid h0
  have hnx : ∀ (o1 o2 : Obj) (w1 : World), Below ((w.alloc o1).alloc o2).heap.size ((w.alloc o1).alloc o2) w1 → Below w.heap.size w w1 := fun o1 o2 w1 h => Below.next (hq.out o1 o2) h (by simp; omega)
  have hnx' := hid hnx
  clear hnx
  rcases cases s i with hi | ⟨k, rfl, hk⟩
  · rw [upM, at?_out hi]
    have hin := InB_out hi
    go_enter Try.func19, Try.ntmps19
    go_wp2_with (go_at_call 26; refine (is_c (hb0.out.below (hq.out _ _)) _).mono ?_; rintro e w1 ⟨rfl, hb1⟩; rw [hin]; obtain ⟨hc, hf, hz⟩ := bcellN (w.heap.size + 2) (by simp) hb1)
    have hB := ((((hnx'.out _ _ _ hb1).setCell (p := ⟨w.heap.size + 1, 0, none⟩) (by simp) (.slice a1 s.length c1)).setCell (p := ⟨w.heap.size + 1, 1, none⟩) (by simp) (.slice a2 s.length c2)).setCell (p := ⟨w.heap.size + 1, 2, none⟩) (by simp) (.slice a3 s.length c3))
    refine bodyPost_ret (v := .tuple #[.agg #[.slice a1 s.length c1, .slice a2 s.length c2, .slice a3 s.length c3], .bool false]) (by simp [results, Try.results19, go_sem, hc, hz]) rfl ⟨_, rfl, (hb0.out.below hB).mono (fun b h _ => .inl h), hB⟩
  · rw [upM, at?_in hk]
    have hin := InB_in hk
    obtain ⟨-, -, -, gm⟩ := h2.get
    obtain ⟨g, o, ra2, hog, hg, cm⟩ := gm k (by simpa using hk)
    subst ra2
    simp only [List.getElem_map] at cm
    clear gm
    by_cases hm : s[k].m = 1
    · simp only [hm, if_true]
      rw [hm] at cm
      have hm1 := hid hm
      clear hm
      have h3' : IntsAt (fun b => b < w.heap.size) w (.slice a3 s.length c3) (s.map Part.s) := h3.mono (fun b _ h => h)
      have hq3 := hid (fun (w2 : World) (hb : Below w.heap.size w w2) (u0 u1 u2 : Value) => (((h3'.below hb).set (b := w.heap.size) (o := 0) (u := u0) (fun c h e => by omega)).set (b := w.heap.size) (o := 1) (u := u1) (fun c h e => by omega)).set (b := w.heap.size) (o := 2) (u := u2) (fun c h e => by omega))
      have hq4 := hid (fun (w2 : World) (hb : Below w.heap.size w w2) (u0 u1 u2 : Value) => ((hb.setCell (p := ⟨w.heap.size, 0, none⟩) (Nat.le_refl _) u0).setCell (p := ⟨w.heap.size, 1, none⟩) (Nat.le_refl _) u1).setCell (p := ⟨w.heap.size, 2, none⟩) (Nat.le_refl _) u2)
      have hq5 := hid (fun (w2 : World) (u0 u1 u2 : Value) => show w2.heap.size ≤ (((w2.setCell ⟨w.heap.size, 0, none⟩ u0).setCell ⟨w.heap.size, 1, none⟩ u1).setCell ⟨w.heap.size, 2, none⟩ u2).heap.size by simp)
      have hls : 0 + (s.map Part.s).length ≤ 17592186044416 := by simp; omega
      have hks : k < (s.map Part.s).length := by simpa using hk
      go_enter Try.func19, Try.ntmps19
      go_wp2_with (first | (go_at_call 26; refine (is_c (hb0.out.below (hq.out _ _)) _).mono ?_; rintro e w1 ⟨rfl, hb1⟩; rw [hin]; obtain ⟨hc, hf, hz⟩ := bcellN (w.heap.size + 2) (by simp) hb1; have cm1 := ((hnx'.out _ _ _ hb1).cell (p := ⟨g, o + k, none⟩) hg).trans cm) | (go_at_call 27; refine (with_c rfl rfl (h2.below (hnx'.out _ _ _ hb1)) k (by simpa using hk) (by simpa using hl) _).mono ?_; rintro e w2 ⟨v', rfl, hv', hb2⟩; obtain ⟨hc2, hf2, hz2⟩ := bcellLe (w.heap.size + 2) hz hb2; have hbw2 := hid (Below.next (hnx'.out _ _ _ hb1) hb2 (hnx'.out _ _ _ hb1).size); obtain ⟨av, cv, rfl⟩ := hv'.shape) | (at_builtin; refine wpList_pushInts rfl (.tmp 24) (.tmp 26) 22 rfl elInt rfl (World.ownsRow_nil _ w2.heap.size _ _) (hq4.out _ hbw2.out _ _ _) hbw2.out.size (hq5.out _ _ _ _) rfl (hq3.out _ hbw2.out _ _ _) hls ?_; intro v3 w4 hown4 hb4 hg4 _; obtain ⟨g4, cap4, ex4, rfl, hgb4, hpg4, hnc4, hcm4⟩ := own_split hown4 (by omega); have hpg4 : pts w4 g4 ((s.map Part.s).map (Value.int .i64) ++ ex4) 3 := hpg4; have cg4 := hpg4.int k hks; simp only [List.getElem_map] at cg4; have fg4 := hpg4.frozen k; have gl4 := hpg4.lt; obtain ⟨hc4, hf4, hz4⟩ := bcellLe (w.heap.size + 2) (Nat.le_trans hz2 (hq5.out _ _ _ _)) (below_of_none hg4); have k40 : w4.cell? ⟨w.heap.size, 0, none⟩ = some (.slice a1 s.length c1) := (by rw [hc4 _ _ (by omega)]; simp [go_sem, hc2, hc, hz, hz2]); have k41 : w4.cell? ⟨w.heap.size, 1, none⟩ = some (.slice av s.length cv) := (by rw [hc4 _ _ (by omega)]; simp [go_sem, hc2, hc, hz, hz2]); have k42 : w4.cell? ⟨w.heap.size, 2, none⟩ = some (.slice a3 s.length c3) := (by rw [hc4 _ _ (by omega)]; simp [go_sem, hc2, hc, hz, hz2]); have hne2 : g4 ≠ w.heap.size := (by omega); have kk4 : ∀ u, (w4.setCell ⟨g4, k, none⟩ u).cell? ⟨w.heap.size, 2, none⟩ = some (.slice a3 s.length c3) := (fun u => (cell_set_ne w4 hne2).trans k42); have hne0 : w.heap.size ≠ g4 := (by omega); have hne1 : w.heap.size + 1 ≠ g4 := (by omega); have hne3 : g4 ≠ w.heap.size + 1 := (by omega)))
      have hB := (((((hb4.setCell (p := ⟨g4, k, none⟩) (by simp; omega) (.int .i64 (wrap64 (s[k].s + 1)))).setCell (p := ⟨w.heap.size, 2, none⟩) (Nat.le_refl _) (.slice (some ⟨g4, 0, none⟩) s.length cap4)).setCell (p := ⟨w.heap.size + 1, 0, none⟩) (by simp) (.slice a1 s.length c1)).setCell (p := ⟨w.heap.size + 1, 1, none⟩) (by simp) (.slice av s.length cv)).setCell (p := ⟨w.heap.size + 1, 2, none⟩) (by simp) (.slice (some ⟨g4, 0, none⟩) s.length cap4))
      refine bodyPost_ret (v := .tuple #[.agg #[.slice a1 s.length c1, .slice av s.length cv, .slice (some ⟨g4, 0, none⟩) s.length cap4], .bool true]) (by simp [results, Try.results19, go_sem, hc, hz, hc2, hz2, hc4, hz4, hne0, hne1, hne2, hne3]) rfl ⟨_, rfl, ⟨_, _, _, rfl, ?_, ?_, ?_⟩, hB⟩
      · rw [show (s.set (k : Int).toNat { s[k] with m := 0, s := wrap64 (s[k].s + 1) }).map Part.a = s.map Part.a from map_a_ms hk _ _]; exact (h1.below hB).mono (fun b h _ => .inl h)
      · rw [show (s.set (k : Int).toNat { s[k] with m := 0, s := wrap64 (s[k].s + 1) }).map Part.m = (s.map Part.m).set k 0 from List.map_set ..]
        have hzw : w.heap.size + 2 ≤ w1.heap.size := hz
        have u0 : IntsAt (fun b => w1.heap.size ≤ b ∧ b < w2.heap.size) w2 (.slice av s.length cv) ((s.map Part.m).set k 0) := by simpa using hv'.mono (fun b h h' => ⟨h, h'⟩)
        have hn0 : ∀ c, (w1.heap.size ≤ c ∧ c < w2.heap.size) → c ≠ w.heap.size := fun c h e => by omega
        have hn1 : ∀ c, (w1.heap.size ≤ c ∧ c < w2.heap.size) → c ≠ w.heap.size + 1 := fun c h e => by omega
        have hn4 : ∀ c, (w1.heap.size ≤ c ∧ c < w2.heap.size) → c ≠ g4 := fun c h e => by omega
        have u1 := ((u0.set (b := w.heap.size) (o := 0) (u := .slice a1 s.length c1) hn0).set (b := w.heap.size) (o := 1) (u := .slice av s.length cv) hn0).set (b := w.heap.size) (o := 2) (u := .slice a3 s.length c3) hn0
        have u2 := u1.below (below_of_none hg4)
        have u3 := ((((u2.set (b := g4) (o := k) (u := .int .i64 (wrap64 (s[k].s + 1))) hn4).set (b := w.heap.size) (o := 2) (u := .slice (some ⟨g4, 0, none⟩) s.length cap4) hn0).set (b := w.heap.size + 1) (o := 0) (u := .slice a1 s.length c1) hn1).set (b := w.heap.size + 1) (o := 1) (u := .slice av s.length cv) hn1).set (b := w.heap.size + 1) (o := 2) (u := .slice (some ⟨g4, 0, none⟩) s.length cap4) hn1
        exact u3.mono (fun b h _ => .inr (by omega))
      · rw [show (s.set (k : Int).toNat { s[k] with m := 0, s := wrap64 (s[k].s + 1) }).map Part.s = (s.map Part.s).set k (wrap64 (s[k].s + 1)) from List.map_set ..]
        have hp := ((((hpg4.set k (.int .i64 (wrap64 (s[k].s + 1)))).set_ne (a := ⟨w.heap.size, 2, none⟩) hne2 (.slice (some ⟨g4, 0, none⟩) s.length cap4)).set_ne (a := ⟨w.heap.size + 1, 0, none⟩) hne3 (.slice a1 s.length c1)).set_ne (a := ⟨w.heap.size + 1, 1, none⟩) hne3 (.slice av s.length cv)).set_ne (a := ⟨w.heap.size + 1, 2, none⟩) hne3 (.slice (some ⟨g4, 0, none⟩) s.length cap4)
        rw [map_set_ex _ _ _ _ hks] at hp
        have h9 := IntsAt.of_pts (ok := fun b => ok b ∨ w.heap.size ≤ b) (cap := cap4) hp (.inr (by omega)) (by simp at hnc4 ⊢; omega) hcm4
        simpa using h9
    · simp only [hm, if_false]
      have hd : (s[k].m == 1) = false := by simp [hm]
      clear hm
      go_enter Try.func19, Try.ntmps19
      go_wp2_with (go_at_call 26; refine (is_c (hb0.out.below (hq.out _ _)) _).mono ?_; rintro e w1 ⟨rfl, hb1⟩; rw [hin]; obtain ⟨hc, hf, hz⟩ := bcellN (w.heap.size + 2) (by simp) hb1; have cm1 := ((hnx'.out _ _ _ hb1).cell (p := ⟨g, o + k, none⟩) hg).trans cm)
      have hB := ((((hnx'.out _ _ _ hb1).setCell (p := ⟨w.heap.size + 1, 0, none⟩) (by simp) (.slice a1 s.length c1)).setCell (p := ⟨w.heap.size + 1, 1, none⟩) (by simp) (.slice (some ⟨g, o, none⟩) s.length c2)).setCell (p := ⟨w.heap.size + 1, 2, none⟩) (by simp) (.slice a3 s.length c3))
      refine bodyPost_ret (v := .tuple #[.agg #[.slice a1 s.length c1, .slice (some ⟨g, o, none⟩) s.length c2, .slice a3 s.length c3], .bool false]) (by simp [results, Try.results19, go_sem, hc, hz]) rfl ⟨_, rfl, (hb0.out.below hB).mono (fun b h _ => .inl h), hB⟩

end Go.Proofs.Ytfnhjendplgidaa.Rm
