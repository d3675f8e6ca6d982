/- Queues that age: the program's and the reference's, side by side. -/
import Derived.Test.YtkighcolplcnbaaAgQ12
set_option linter.unusedVariables false
namespace Go.Proofs
open Go Go.Eng
def TwoQ (B : Nat) (w : World) (q r : Nat) (Q Q2 : Que) : Prop := ∃ K KR : Nat → Prop, QK K B w q Q ∧ RQ w KR r Q2 ∧ ∀ k, KR k → K k ∧ B ≤ k
section
variable {B : Nat} {w w' : World} {q r : Nat} {Q Q2 : Que}
theorem TwoQ.fr0 (h : TwoQ B w q r Q Q2) (f : Fr none1 w w') : TwoQ B w' q r Q Q2 := by
  obtain ⟨K, KR, h1, h2, h3⟩ := h
  exact ⟨K, KR, h1.fr0 f, h2.fr0 f, h3⟩
theorem TwoQ.prog (h : TwoQ B w q r Q Q2) {f : Nat} {args : List Value} {P : Value → Prop} {Q' : Que} (hc : ∀ K, QK K B w q Q → Ret Try.prog f args w fun v w' => P v ∧ QK K B w' q Q' ∧ Fr (offK K B) w w') :
    Ret Try.prog f args w fun v w' => P v ∧ TwoQ B w' q r Q' Q2 ∧ Bel B w w' := by
  obtain ⟨K, KR, h1, h2, h3⟩ := h
  exact (hc K h1).imp fun v w' ⟨a, b, f⟩ => ⟨a, ⟨K, KR, b, h2.fr f fun k _ hk ho => ho.2 (h3 k hk).1, h3⟩, offK_bel f⟩
theorem TwoQ.ref (h : TwoQ B w q r Q Q2) {f : Nat} {args : List Value} {P : Value → Prop} {Q' : Que} (hc : ∀ KR, RQ w KR r Q2 → Ret Try.prog f args w fun v w' => P v ∧ RQ w' (qplus KR w) r Q' ∧ Fr KR w w') :
    Ret Try.prog f args w fun v w' => P v ∧ TwoQ B w' q r Q Q' ∧ Bel B w w' := by
  obtain ⟨K, KR, h1, h2, h3⟩ := h
  refine (hc KR h2).imp fun v w' ⟨a, b, f⟩ => ⟨a, ⟨_, fun k => qplus KR w k ∧ k < w'.heap.size, h1.grow f fun k _ hk => .inl (h3 k hk).1, ?_, fun k hk => ?_⟩, f.bel fun k hk => (h3 k hk).2⟩
  · obtain ⟨b0, A, c, b1, b2, b3⟩ := b
    exact ⟨⟨b0, b1.lt⟩, A, c, b1, b2.mono fun k hk h => ⟨h, hk⟩, b3⟩
  · have := h1.2.2
    rcases hk.1 with h | h
    · exact ⟨.inl (h3 k h).1, (h3 k h).2⟩
    · exact ⟨.inr ⟨h, hk.2⟩, by omega⟩
end
theorem plays_k7 {B : Nat} {w0 w : World} {q r n1 i M : Nat} {Q : Que} {ta : Option Addr} {tc : Nat} {P : Value → World → Prop} (h : TwoQ B w q r Q Q) (hi : i < n1) (hn1 : n1 ≤ 300) (hn : Q.n ≤ i + 1) (hb : Q.b ≤ i + 1) (g : Bel B w0 w) (hM : n1 - (i + 1) < M) :
    S7_k7 true (some ⟨q, 0, none⟩) ⟨r, 0, none⟩ ta n1 tc (n1 : Int) (i : Int) w P (fun s' w'' => (∃ (i : Nat) (Q : Que), s'.1 = (i : Int) ∧ i ≤ n1 ∧ TwoQ B w'' q r Q Q ∧ Q.n ≤ i ∧ Q.b ≤ i ∧ Bel B w0 w'') ∧ n1 - s'.1.toNat < M) := by
  have next : ∀ {w'}, TwoQ B w' q r Q Q → Bel B w0 w' → S7_k8 true (some ⟨q, 0, none⟩) ⟨r, 0, none⟩ ta n1 tc (n1 : Int) (i : Int) false w' P (fun s' w'' => (∃ (i : Nat) (Q : Que), s'.1 = (i : Int) ∧ i ≤ n1 ∧ TwoQ B w'' q r Q Q ∧ Q.n ≤ i ∧ Q.b ≤ i ∧ Bel B w0 w'') ∧ n1 - s'.1.toNat < M) := by
    intro w' h' g'
    refine cF rfl ?_
    rw [IntWalk.i64_in _ (by omega)]
    exact ⟨⟨i + 1, Q, rfl, by omega, h', hn, hb, g'⟩, by dsimp only; omega⟩
  have hp : ∀ {u}, TwoQ B u q r Q Q → ∃ ok, QAt u ok q Q := fun h => by obtain ⟨K, _, h1, _⟩ := h; exact ⟨_, h1.1⟩
  have hr : ∀ {u}, TwoQ B u q r Q Q → ∃ ok, RQ u ok r Q := fun h => by obtain ⟨_, KR, _, h2, _⟩ := h; exact ⟨_, h2⟩
  obtain ⟨ok1, p1⟩ := hp h
  refine (next_ok p1).use ?_
  rintro v w1 ⟨rfl, f1⟩
  have h1 := h.fr0 f1
  refine ⟨_, _, rfl, ?_⟩
  obtain ⟨ok2, r2⟩ := hr h1
  refine (rNext_ok r2).use ?_
  rintro v w2 ⟨rfl, f2⟩
  have fd : Fr none1 w2 w2.drew := Fr.drew w2
  have h2 := (h1.fr0 f2).fr0 fd
  have g2 := g.trans' (f1.bel0.trans' (f2.bel0.trans' fd.bel0))
  refine ⟨_, _, rfl, cF (by simp) (cF (by simp) ?_)⟩
  generalize w2.drew = w3 at h2 g2 ⊢
  obtain ⟨ok3, p3⟩ := hp h2
  obtain ⟨ok4, _, A, c, b4, o4, hQ⟩ := hr h2
  have hq4 := (b4.cell 0).trans (rfl : _ = some (Value.slice A Q.ws.length c))
  have l64 := hQ.1
  have fin : ∀ {u A7 c7}, Fr none1 w3 u → Rd u (fun _ => True) A7 (rws wcell Q.ws) → Calls Try.prog 17 ⟨[.slice A7 Q.ws.length c7, .slice A Q.ws.length c]⟩ u fun e w__5 => ∃ (t151 : Bool), e = .returned (.bool t151) ∧ S7_k8 true (some ⟨q, 0, none⟩) ⟨r, 0, none⟩ ta n1 tc (n1 : Int) (i : Int) (!t151) w__5 P (fun s' w'' => (∃ (i : Nat) (Q : Que), s'.1 = (i : Int) ∧ i ≤ n1 ∧ TwoQ B w'' q r Q Q ∧ Q.n ≤ i ∧ Q.b ≤ i ∧ Bel B w0 w'') ∧ n1 - s'.1.toNat < M) := by
    intro u A7 c7 fu hu
    refine (wsame_ok hu (o4.fr fu fun _ _ _ h => h).rd (by omega)).use ?_
    rintro v u2 ⟨rfl, f5⟩
    rw [decide_eq_true rfl]
    exact ⟨_, rfl, next ((h2.fr0 fu).fr0 f5) (g2.trans' (fu.bel0.trans' f5.bel0))⟩
  have all : ∀ R : Ending → World → Prop, (∀ A7 c7 u, Fr none1 w3 u → Rd u (fun _ => True) A7 (rws wcell Q.ws) → R (.returned (.slice A7 Q.ws.length c7)) u) → Calls Try.prog 15 ⟨[.pointer (some ⟨q, 0, none⟩)]⟩ w3 R := by
    intro R hR
    refine (qall_ok p3).use ?_
    rintro v u ⟨A7, c7, rfl, o7, f7⟩
    exact hR A7 c7 u f7 (o7.rd.mono fun _ _ _ => trivial)
  refine ⟨_, rfl, ?_, ⟨A, _, c, hq4, ?_⟩⟩
  all_goals
    refine (qlen_ok p3).use ?_
    rintro v u ⟨rfl, rfl⟩
  · refine ⟨_, rfl, A, _, c, hq4, cF (by simp) ⟨_, rfl, ?_, ⟨A, _, c, hq4, ?_⟩⟩⟩
    · exact all _ fun A7 c7 u fu hu => ⟨_, _, _, rfl, A, _, c, ((b4.fr fu fun h => h).cell 0).trans rfl, fin fu hu⟩
    · exact all _ fun A7 c7 u fu hu => ⟨_, _, _, rfl, fin fu hu⟩
  · refine ⟨_, rfl, cF (by simp) ⟨_, rfl, ?_, ⟨A, _, c, hq4, ?_⟩⟩⟩
    · exact all _ fun A7 c7 u fu hu => ⟨_, _, _, rfl, A, _, c, ((b4.fr fu fun h => h).cell 0).trans rfl, fin fu hu⟩
    · exact all _ fun A7 c7 u fu hu => ⟨_, _, _, rfl, fin fu hu⟩
end Go.Proofs
