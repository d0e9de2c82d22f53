/- DERIVED. A port over a script: what Put, Ask, Expire and Sweep leave. No statement is proved here. -/
import Derived.Test.YtnlmkllhmldgiaaQueueV
import Derived.Test.YtnlmkllhmldgiaaQueueI
namespace Go.Proofs.Ytnlmkllhmldgiaa.Qu
set_option linter.unusedVariables false
set_option linter.unusedSimpArgs false
open Go.RowKit Go.Maps Go.Proofs.Ytnlmkllhmldgiaa.K Go.Proofs.Ytnlmkllhmldgiaa.Lb Go.Proofs.Ytnlmkllhmldgiaa.Wh
/-- Ahead of step k: a port that holds no more than k have asked. -/
structure HAt (B : Nat) (w0 w : World) (pb : Nat) (hold k : Int) (p : Prt) (M W : Nat → Prop) : Prop where
  port : PortF w M W pb p
  hold : p.hold = hold
  s : p.s ≤ k
  row : (p.row.length : Int) ≤ k
  wd : Wd B w0 w M
def HSt (B : Nat) (w0 : World) (pb : Nat) (hold k : Int) (w : World) : Prop := ∃ p M W, HAt B w0 w pb hold k p M W
def HPost (B : Nat) (w0 : World) (pb : Nat) (hold k : Int) (e : Ending) (w' : World) : Prop := ∃ v, e = .returned v ∧ HSt B w0 pb hold k w'
section
variable {B : Nat} {w0 w w' : World} {pb : Nat} {hold k : Int} {p : Prt} {M W : Nat → Prop}
theorem HAt.below (h : HAt B w0 w pb hold k p M W) (hb : Below w.heap.size w w') : HAt B w0 w' pb hold k p M W := ⟨h.port.below hb, h.hold, h.s, h.row, h.wd.next hb⟩
theorem HAt.mono {k' : Int} (h : HAt B w0 w pb hold k p M W) (hk : k ≤ k') : HAt B w0 w pb hold k' p M W := ⟨h.port, h.hold, Int.le_trans h.s hk, Int.le_trans h.row hk, h.wd⟩
theorem HAt.step {p' : Prt} {k' : Int} (h : HAt B w0 w pb hold k p M W) (hs : StepP w M W pb p' w') (h1 : p'.hold = p.hold) (h2 : p'.s ≤ k') (h3 : (p'.row.length : Int) ≤ k') : HSt B w0 pb hold k' w' := by
  obtain ⟨M', hP, hM', _, hc⟩ := hs
  exact ⟨p', M', _, hP, h1.trans h.hold, h2, h3, h.wd.turn hc hM' (fun b hb => hP.lt b (.inl hb))⟩
theorem but_le (l : List Int) (x : Int) : (butT l x).length ≤ l.length := List.length_filter_le _ _
theorem putP_of (p : Prt) (m : Msg) : (putP p m).1.hold = p.hold ∧ (putP p m).1.s = p.s ∧ (putP p m).1.row.length ≤ p.row.length := by
  unfold putP
  cases h : p.row with
  | nil => simp only; split <;> simp [h]
  | cons x r => exact ⟨rfl, rfl, but_le _ _⟩
theorem askP_of (p : Prt) (x u now : Int) : (askP p x u now).1.hold = p.hold ∧ (askP p x u now).1.s ≤ p.s + 1 ∧ (askP p x u now).1.row.length ≤ p.row.length + 1 := by
  unfold askP
  split
  · exact ⟨rfl, by simp only; omega, by simp only; omega⟩
  · cases h : p.ms with
    | cons m r => exact ⟨rfl, by simp only; omega, by simp only; omega⟩
    | nil => simp only; split <;> simp <;> omega
theorem HAt.put (h : HAt B w0 w pb hold k p M W) {m : Msg} {ok : Nat → Prop} {a : Option Addr} {c : Nat} (hi : IntsAt ok w (.slice a m.words.length c) m.words) (hwl : m.words.length ≤ 17592186044416) :
    Calls Try.prog 12 #[.pointer (some ⟨pb, 0, none⟩), .agg #[.slice a m.words.length c, .int .i64 m.lane, .int .i64 m.stamp, .int .i64 m.late, .int .i64 m.seq]] w (HPost B w0 pb hold (k + 1)) :=
  (put_x h.port hi hwl).mono fun e w' ⟨he, hs⟩ => by
    obtain ⟨h1, h2, h3⟩ := putP_of p m
    exact ⟨_, he, h.step hs h1 (by have := h.s; omega) (by have := h.row; omega)⟩
theorem HAt.ask (h : HAt B w0 w pb hold k p M W) (hk : k ≤ 1000) {x : Int} (hx : isInt x) (u now : Int) : Calls Try.prog 10 #[.pointer (some ⟨pb, 0, none⟩), .int .i64 x, .int .i64 u, .int .i64 now] w (HPost B w0 pb hold (k + 1)) :=
  (ask_x h.port hx u now (by have := h.s; omega) (by have := h.row; omega)).mono fun e w' ⟨a, c, he, _, hs⟩ => by
    obtain ⟨h1, h2, h3⟩ := askP_of p x u now
    exact ⟨_, he, h.step hs h1 (by have := h.s; omega) (by have := h.row; omega)⟩
theorem expP_row (p : Prt) (now : Int) : (expP p now).row.length ≤ p.row.length := by
  show ((keysE (p.es.filter (lateE now))).foldl butT p.row).length ≤ _
  rw [foldBut]; exact List.length_filter_le _ _
theorem HAt.exp (h : HAt B w0 w pb hold k p M W) (hk : k ≤ 1000) (now : Int) : Calls Try.prog 13 #[.pointer (some ⟨pb, 0, none⟩), .int .i64 now] w (HPost B w0 pb hold (k + 1)) :=
  (expire_x h.port now (by have := h.s; omega) (by have := h.row; omega)).mono fun e w' ⟨v, he, _, hP, hc⟩ => ⟨_, he, expP p now, M, W, hP, h.hold, by have := h.s; show p.s ≤ _; omega, by have := h.row; have := expP_row p now; omega, h.wd.turn hc (fun b hb => .inl hb) (fun b hb => hP.lt b (.inl hb))⟩
theorem HAt.sweep (h : HAt B w0 w pb hold k p M W) (now : Int) : Calls Try.prog 17 #[.pointer (some ⟨pb, 0, none⟩), .int .i64 now] w (HPost B w0 pb hold (k + 1)) :=
  (sweep_x h.port now).mono fun e w' ⟨v, qs, M', he, _, _, hP, hM', _, hc⟩ => ⟨_, he, _, M', W, hP, h.hold, by have := h.s; show p.s ≤ _; omega, by have := h.row; show (p.row.length : Int) ≤ _; omega, h.wd.turn hc hM' (fun b hb => hP.lt b (.inl hb))⟩
theorem HAt.new {w1 : World} (h1 : Below w.heap.size w w1) (n : Int) {e : Ending} (hn : ∃ pb M, e = .returned (.pointer (some ⟨pb, 0, none⟩)) ∧ PortF w' M (fun _ => False) pb (newP n) ∧ (∀ b, M b → w1.heap.size ≤ b) ∧ Below w1.heap.size w1 w') : ∃ pb, e = .returned (.pointer (some ⟨pb, 0, none⟩)) ∧ HSt w.heap.size w pb (holdT n) 0 w' := by
  obtain ⟨pb, M, he, hP, hM, hb⟩ := hn
  exact ⟨pb, he, newP n, M, _, hP, rfl, Int.le_refl _, Int.le_refl _, Below.next h1 hb h1.size, fun b hb => Nat.le_trans h1.size (hM b hb), fun b hb => hP.lt b (.inl hb), Nat.le_trans h1.size hb.size⟩
end
end Go.Proofs.Ytnlmkllhmldgiaa.Qu
