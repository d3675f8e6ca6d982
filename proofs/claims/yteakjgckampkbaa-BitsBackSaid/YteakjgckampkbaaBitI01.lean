/- The examples of the laws of bits; the law of a full writer, and of the length of counts. -/
import Derived.Test.YteakjgckampkbaaBitH01
import Derived.Test.YteakjgckampkbaaOpn
set_option linter.unusedVariables false
namespace Go.Proofs
open Go Go.Eng
def Done (W : World) (v : Value) (w : World) : Prop := v = .bool true ∧ Fr none1 W w
def Duo (B : Nat) (w : World) (b1 : Nat) (L1 : List Bool) (b2 : Nat) (L2 : List Bool) : Prop :=
  ∃ ok1 ok2 : Nat → Prop, WrAt w ok1 b1 L1 ∧ WrAt w ok2 b2 L2 ∧ (∀ k, k < w.heap.size → ok1 k → ok2 k → False) ∧ (∀ k, ok1 k → B ≤ k) ∧ (∀ k, ok2 k → B ≤ k) ∧ B ≤ w.heap.size
theorem Duo.fr0 {B : Nat} {w w' : World} {b1 b2 : Nat} {L1 L2 : List Bool} (h : Duo B w b1 L1 b2 L2) (f : Fr none1 w w') : Duo B w' b1 L1 b2 L2 := by
  obtain ⟨o1, o2, h1, h2, hd, s1, s2, hB⟩ := h
  refine ⟨fun k => o1 k ∧ k < w.heap.size, o2, (h1.mono fun k hk h => ⟨h, hk⟩).fr f (fun _ _ _ h => h), h2.fr f (fun _ _ _ h => h), fun k _ h1 h2 => hd k h1.2 h1.1 h2, fun k h => s1 k h.1, s2, Nat.le_trans hB f.size⟩
theorem Duo.step1 {B : Nat} {w : World} {b1 b2 : Nat} {L1 L2 : List Bool} (h : Duo B w b1 L1 b2 L2) {f : Nat} {args : List Value} {Q : Value → Prop} {L' : List Bool}
    (hc : ∀ ok, WrAt w ok b1 L1 → Ret Try.prog f args w fun v w' => Q v ∧ WrAt w' (okp ok w) b1 L' ∧ Fr ok w w') : Ret Try.prog f args w fun v w' => Q v ∧ Duo B w' b1 L' b2 L2 ∧ Bel B w w' := by
  obtain ⟨o1, o2, h1, h2, hd, s1, s2, hB⟩ := h
  refine (hc o1 h1).imp fun v w' ⟨q, h1', f⟩ => ⟨q, ⟨okp o1 w, fun k => o2 k ∧ k < w.heap.size, h1', (h2.mono fun k hk h => ⟨h, hk⟩).fr f fun k hk h e => hd k hk e h.1, fun k _ a b => ?_, fun k h => ?_, fun k h => s2 k h.1, Nat.le_trans hB f.size⟩, f.bel s1⟩
  · rcases a with a | a
    · exact hd k b.2 a b.1
    · have := b.2; omega
  · rcases h with h | h
    · exact s1 k h
    · exact Nat.le_trans hB h
theorem Duo.swap {B : Nat} {w : World} {b1 b2 : Nat} {L1 L2 : List Bool} (h : Duo B w b1 L1 b2 L2) : Duo B w b2 L2 b1 L1 := by
  obtain ⟨o1, o2, h1, h2, hd, s1, s2, hB⟩ := h
  exact ⟨o2, o1, h2, h1, fun k hk a b => hd k hk b a, s2, s1, hB⟩
theorem shown_ok (w : World) : Ret Try.prog 10 [] w fun v w' => v = .bool true ∧ Fr none1 w w' := by
  apply S10_calls
  refine (wnew_ok w).use ?_
  rintro v w1 ⟨rfl, h1, f1⟩
  refine ⟨_, rfl, ?_⟩
  refine (wnew_ok w1).use ?_
  rintro v w2 ⟨rfl, h2, f2⟩
  refine ⟨_, rfl, ?_⟩
  have g2 : Bel w.heap.size w w2 := (f1.trans' f2).bel0
  have d2 : Duo w.heap.size w2 w.heap.size [] w1.heap.size [] := ⟨bw w.heap.size w1, from1 w1.heap.size, (h1.mono fun k hk h => ⟨h, hk⟩).fr f2 (fun _ _ _ h => h), h2, fun k _ a b => by have := a.2; simp only [from1] at b; omega, fun k h => h.1, fun k h => Nat.le_trans f1.size h, g2.size⟩
  generalize w1.heap.size = b2 at d2 ⊢
  generalize hb1 : (⟨w.heap.size, 0, none⟩ : Addr) = p1
  have hp1 : p1 = ⟨w.heap.size, 0, none⟩ := hb1.symm
  subst hp1
  have d2' := d2
  obtain ⟨o1, _, k1, _⟩ := d2'
  refine cF rfl (cF rfl ?_)
  refine (wout_ok k1).use ?_
  rintro v w3 ⟨A3, c3, rfl, _, f3⟩
  refine ⟨_, _, _, rfl, ?_⟩
  have d3 := d2.fr0 f3
  refine (d3.step1 (fun ok h => put_ok h (n := 5) (by decide) 3)).use ?_
  rintro v w4 ⟨rfl, d4, g4⟩
  refine ⟨_, rfl, ?_⟩
  refine (d4.step1 (fun ok h => put_ok h (n := 1) (by decide) 2)).use ?_
  rintro v w5 ⟨rfl, d5, g5⟩
  refine ⟨_, rfl, ?_⟩
  refine (d5.swap.step1 (fun ok h => count_ok h (n := 0) (by decide))).use ?_
  rintro v w6 ⟨rfl, d6, g6⟩
  refine ⟨_, rfl, ?_⟩
  refine (d6.step1 (fun ok h => count_ok h (n := 1) (by decide))).use ?_
  rintro v w7 ⟨rfl, d7, g7⟩
  refine ⟨_, rfl, ?_⟩
  refine (d7.step1 (fun ok h => count_ok h (n := 4) (by decide))).use ?_
  rintro v w8 ⟨rfl, d8, g8⟩
  refine ⟨_, rfl, ?_⟩
  have e1 : putL (putL [] 5 3) 1 2 = [true, false, true, false, true] := by decide +kernel
  have e2 : cntL (cntL (cntL [] 0) 1) 4 = [true, false, true, false, false, false, true, false, true] := by decide +kernel
  rw [e1, e2] at d8
  refine cT rfl (cT (by decide +kernel) (cT (by decide +kernel) (cT (by decide +kernel) (cT (by decide +kernel) (cT (by decide +kernel) ?_)))))
  have d8' := d8
  obtain ⟨o1, o2, k1, k2, _⟩ := d8'
  refine (wout_ok k2).use ?_
  rintro v w9 ⟨A9, c9, rfl, o9, f9⟩
  refine ⟨_, _, _, rfl, _, w9, run_toString Uby Uu8 Ustr rfl o9.rd, cT (by decide +kernel) ?_⟩
  have d9 := d8.fr0 f9
  obtain ⟨o1, o2, k1, k2, _⟩ := d9
  refine (wlen_ok k2).use ?_
  rintro v w9 ⟨rfl, rfl⟩
  refine ⟨_, rfl, cT rfl ?_⟩
  refine (wlen_ok k1).use ?_
  rintro v w9 ⟨rfl, rfl⟩
  refine ⟨_, rfl, cT rfl ?_⟩
  refine (wout_ok k1).use ?_
  rintro v w10 ⟨A10, c10, rfl, o10, f10⟩
  refine ⟨_, _, _, rfl, _, w10, run_toString Uby Uu8 Ustr rfl o10.rd, ?_, ?_⟩
  · congr 1
  · exact (g2.trans' (f3.bel0.trans' (g4.trans' (g5.trans' (g6.trans' (g7.trans' (g8.trans' (f9.bel0.trans' f10.bel0)))))))).top
end Go.Proofs
