/- Queues that age: AgingPlays. -/
import Derived.Test.YtkighcolplcnbaaAgS12
set_option linter.unusedVariables false
namespace Go.Proofs
open Go Go.Eng
theorem offK_of {K : Nat → Prop} {B : Nat} {w w' : World} {p : Nat} {t : TypeId} {vs : List Value} (b : Blk w p t vs) (f : Fr (offK K B) w w') (hp : K p) : Blk w' p t vs := b.fr f fun h => h.2 hp
theorem QK.grow1 {K : Nat → Prop} {B : Nat} {w w' : World} {q : Nat} {Q : Que} (h : QK K B w q Q) (f : Fr none1 w w') : ∃ K' : Nat → Prop, QK K' B w' q Q ∧ (∀ k, w.heap.size ≤ k → k < w'.heap.size → K' k) ∧ ∀ k, K k → K' k :=
  ⟨_, h.grow f fun _ _ h => h.elim, fun k h1 h2 => .inr ⟨h1, h2⟩, fun k hk => .inl hk⟩
section
variable {W : World} {A : Option Addr} {c : Nat} {al : List Act}
theorem agingPlays_ok (h : RowAt W.heap.size 2 (ActQ W) A al) (hc : al.length ≤ c) (hm : c ≤ 9223372036854775807) (st : Int) : Ret Try.prog 7 [.int .i64 st, .slice A al.length c] W (Done W) := by
  apply S7_calls
  refine (shown_ok W).use ?_
  rintro v w1 ⟨rfl, f1⟩
  refine ⟨_, rfl, ?_⟩
  by_cases hb : st < 0 ∨ 1000 < st
  · refine (qnew_bad hb w1).use ?_
    rintro v w2 ⟨rfl, rfl⟩
    refine ⟨_, _, rfl, cD (fun h0 => ?_) (fun h0 => ?_)⟩
    · exact cT rfl (cT rfl (cT rfl ⟨rfl, f1⟩))
    · rw [decide_eq_true (by omega : (1000 : Int) < st)]
      exact cT rfl (cT rfl (cT rfl ⟨rfl, f1⟩))
  refine (QK.new (K := fun _ => False) (B := W.heap.size) (n := st) (by omega) f1.size (fun _ h => h.elim)).use ?_
  rintro v w2 ⟨q, rfl, h2, f2, hq⟩
  refine ⟨_, _, rfl, cF (decide_eq_false (by omega)) ?_⟩
  rw [decide_eq_false (by omega : ¬ (1000 : Int) < st)]
  refine cF rfl (cF rfl (cF rfl ?_))
  have g2 : Bel W.heap.size W w2 := f1.bel0.trans' f2.bel0
  have fr : Fr none1 w2 (w2.alloc (.cells ⟨qcs none 0 ⟨[], 0, st.toNat, 0⟩⟩ 48)) := Fr.alloc _ _
  have br := Blk.new w2 48 (qcs none 0 ⟨[], 0, st.toNat, 0⟩)
  have h3 := h2.grow fr fun _ _ h => h.elim
  have hpr := br.lt
  have est : ((st.toNat : Nat) : Int) = st := by omega
  unfold S7_k3
  generalize hw : w2.alloc (.cells ⟨[.slice none 0 0, .int .i64 0, .int .i64 st]⟩ 48) = w3
  have hw' : w2.alloc (.cells ⟨qcs none 0 ⟨[], 0, st.toNat, 0⟩⟩ 48) = w3 := by rw [← hw]; unfold qcs; rw [est]; rfl
  rw [hw'] at fr br h3 hpr
  clear hw hw'
  have hr3 : RQ w3 (fun k => k = w2.heap.size) w2.heap.size ⟨[], 0, st.toNat, 0⟩ := ⟨rfl, none, 0, br, Own.nil _ _ _ _, by simp, by simp, by simp only; omega, by simp, by simp⟩
  have t3 : TwoQ W.heap.size w3 q w2.heap.size ⟨[], 0, st.toNat, 0⟩ ⟨[], 0, st.toNat, 0⟩ := ⟨_, _, h3, hr3, fun k e => by subst e; exact ⟨.inr ⟨Nat.le_refl _, hpr⟩, g2.size⟩⟩
  have g3 := g2.trans' fr.bel0
  generalize w2.heap.size = r at t3 ⊢
  refine (few_ok hc hm).use ?_
  rintro v w3 ⟨rfl, rfl⟩
  have hrow := RowAt.take h 300
  have h300 := List.length_take_le 300 al
  generalize al.take 300 = bl at hrow h300
  refine ⟨_, _, _, rfl, ?_⟩
  refine ⟨fun s w' => ∃ (i : Nat) (Q : Que), s.1 = (i : Int) ∧ i ≤ bl.length ∧ TwoQ W.heap.size w' q r Q Q ∧ Q.n ≤ i ∧ Q.b ≤ i ∧ Bel W.heap.size W w', fun s _ => bl.length - s.1.toNat, ⟨0, _, rfl, Nat.zero_le _, t3, Nat.le_refl _, Nat.le_refl _, g3⟩, ?_⟩
  rintro J ⟨i', ⟨⟩⟩ w4 ⟨i, Q, hi, hil, t4, hn, hb4, g4⟩
  dsimp only at hi ⊢
  subst hi
  refine cD (fun hlt => ?_) (fun hlt => ⟨rfl, g4.top⟩)
  have hlt' : i < bl.length := by have : (i : Int) < (bl.length : Int) := hlt; omega
  have hM : bl.length - (i + 1) < bl.length - (i : Int).toNat := by omega
  have hx : bl[i]? = some bl[i] := List.getElem?_eq_getElem hlt'
  generalize bl[i] = x at hx
  obtain ⟨a, ha, c0, c1, x0, x1⟩ := act_at hrow g4 (Nat.le_refl _) hx
  refine ⟨a, ha, by omega, by omega, _, by rw [Int.toNat_natCast]; exact c0, _, by rw [Int.toNat_natCast]; exact c1, ?_⟩
  obtain ⟨p1, p2, p3, p4, b5, f5⟩ := cp2 w4 31 (.int .u8 0) (.int .i64 0) (.int .u8 x.1) (.int .i64 x.2)
  refine ⟨p1, p2, p3, p4, ?_⟩
  have hpl := b5.lt
  generalize hw5 : World.setCell _ _ _ = w5 at b5 f5 hpl ⊢
  clear hw5 p1 p2 p3 p4
  obtain ⟨K, KR, h4, r4, hKR⟩ := t4
  obtain ⟨K5, h5, hKp, hK5⟩ := h4.grow1 f5
  have hKp := hKp _ (Nat.le_refl _) hpl
  have r5 := r4.fr0 f5
  have hKR5 : ∀ k, KR k → K5 k ∧ W.heap.size ≤ k := fun k hk => ⟨hK5 k (hKR k hk).1, (hKR k hk).2⟩
  generalize w4.heap.size = p at b5 hKp ⊢
  have g5 := g4.trans' f5.bel0
  have hdn := doQ_n Q x
  have two : ∀ {u Q' Q2}, QK K5 W.heap.size u q Q' → RQ u KR r Q2 → TwoQ W.heap.size u q r Q' Q2 := fun a b => ⟨K5, KR, a, b, hKR5⟩
  refine ⟨x.1, (b5.cell 0).trans rfl, by decide, cD (fun k0 => ?_) (fun k0 => cD (fun k1 => ?_) (fun k1 => ?_))⟩
  · have e : doQ Q x = adQ Q x.2 := if_pos k0
    rw [e] at hdn
    refine ⟨_, (b5.cell 1).trans rfl, ?_⟩
    refine (h5.add x.2 (by omega)).use ?_
    rintro v w6 ⟨rfl, h6, f6⟩
    refine ⟨_, _, rfl, _, ((offK_of b5 f6 hKp).cell 1).trans rfl, ?_⟩
    have r6 := r5.fr f6 fun k _ hk ho => ho.2 (hKR5 k hk).1
    refine ((two h6 r6).ref (P := fun v => v = _) fun KR h => radd_ok h x.2 (by omega)).use ?_
    rintro v w7 ⟨rfl, t7, g7⟩
    refine ⟨_, _, rfl, cF (by simp) ?_⟩
    exact cF (by simp) (plays_k7 t7 hlt' h300 (by omega) (by omega) (g5.trans' ((offK_bel f6).trans' g7)) hM)
  · have e : doQ Q x = tkQ Q := by unfold doQ; rw [if_neg (show ¬ kd x = 0 from k0), if_pos (show kd x = 1 from k1)]
    rw [e] at hdn
    refine (h5.take (by omega)).use ?_
    rintro v w6 ⟨rfl, h6, f6⟩
    refine ⟨_, _, rfl, ?_⟩
    have r6 := r5.fr f6 fun k _ hk ho => ho.2 (hKR5 k hk).1
    refine ((two h6 r6).ref (P := fun v => v = _) fun KR h => rtake_ok h (by omega)).use ?_
    rintro v w7 ⟨rfl, t7, g7⟩
    refine ⟨_, _, rfl, cF (by simp) ?_⟩
    exact cF (by simp) (plays_k7 t7 hlt' h300 (by omega) (by omega) (g5.trans' ((offK_bel f6).trans' g7)) hM)
  · have e : doQ Q x = drQ Q x.2 := by unfold doQ; rw [if_neg (show ¬ kd x = 0 from k0), if_neg (show ¬ kd x = 1 from k1)]
    rw [e] at hdn
    have fd : Fr none1 w5 w5.drew := Fr.drew w5
    have h5' := h5.fr0 fd
    have b5' := b5.fr fd fun h => h
    have r5' := r5.fr0 fd
    have g5' := g5.trans' fd.bel0
    refine ⟨_, (b5'.cell 1).trans rfl, ?_, _, (b5'.cell 1).trans rfl, ?_⟩
    · refine (h5'.drop x.2).use ?_
      rintro v w6 ⟨rfl, h6, f6⟩
      refine ⟨_, rfl, _, ((offK_of b5' f6 hKp).cell 1).trans rfl, ?_⟩
      have r6 := r5'.fr f6 fun k _ hk ho => ho.2 (hKR5 k hk).1
      refine ((two h6 r6).ref (P := fun v => v = _) fun KR h => rdrop_ok h x.2).use ?_
      rintro v w7 ⟨rfl, t7, g7⟩
      refine ⟨_, rfl, cF (by simp) (plays_k7 t7 hlt' h300 (by omega) (by omega) (g5'.trans' ((offK_bel f6).trans' g7)) hM)⟩
    · refine (h5'.drop x.2).use ?_
      rintro v w6 ⟨rfl, h6, f6⟩
      refine ⟨_, rfl, ?_⟩
      have r6 := r5'.fr f6 fun k _ hk ho => ho.2 (hKR5 k hk).1
      refine ((two h6 r6).ref (P := fun v => v = _) fun KR h => rdrop_ok h x.2).use ?_
      rintro v w7 ⟨rfl, t7, g7⟩
      refine ⟨_, rfl, cF (by simp) (plays_k7 t7 hlt' h300 (by omega) (by omega) (g5'.trans' ((offK_bel f6).trans' g7)) hM)⟩
end
end Go.Proofs
