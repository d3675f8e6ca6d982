/- Queues that age: the reference's choice. -/
import Derived.Test.YtkighcolplcnbaaAgN12
set_option linter.unusedVariables false
namespace Go.Proofs
open Go Go.Eng
section
variable {w : World} {ok : Nat → Prop} {q : Nat} {Q : Que}
def bst (ws : List Wt) (i : Nat) : Int := if i = 0 then -1 else (bestN ws i : Int)
theorem rnext_ok (h : RQ w ok q Q) : Ret Try.prog 28 [.pointer (some ⟨q, 0, none⟩)] w fun v w' => v = .int .i64 (pl Q) ∧ Fr none1 w w' := by
  obtain ⟨hok, A, c, h1, h2, hQ⟩ := h
  obtain ⟨q1, q2, q3, q4, q5⟩ := hQ
  apply S28_calls
  refine ⟨fun s w' => ∃ i : Nat, s.2.1 = (i : Int) ∧ i ≤ Q.ws.length ∧ s.1 = bst Q.ws i ∧ (∀ (k : Nat) (y : Wt), k < i → Q.ws[k]? = some y → due Q.st y = false) ∧ Fr none1 w w', fun s _ => Q.ws.length - s.2.1.toNat, ⟨0, rfl, Nat.zero_le _, rfl, fun k y hk => absurd hk (Nat.not_lt_zero k), Fr.refl _ _⟩, ?_⟩
  rintro J ⟨b', i', ⟨⟩⟩ w1 ⟨i, hi, hil, hb, hno, f1⟩
  dsimp only at hi hb ⊢
  subst hi hb
  have k1 := h1.fr f1 fun h => h
  refine ⟨_, rfl, A, _, c, (k1.cell 0).trans rfl, cD (fun hlt => ?_) (fun hlt => ?_)⟩
  · have hlt' : i < Q.ws.length := by have : (i : Int) < (Q.ws.length : Int) := hlt; omega
    have hx : Q.ws[i]? = some Q.ws[i] := List.getElem?_eq_getElem hlt'
    have hwo := q4 _ (List.mem_of_getElem? hx)
    generalize Q.ws[i] = x at hx hwo
    have fd : Fr none1 w1 w1.drew := Fr.drew w1
    have k2 := k1.fr fd fun h => h
    have o2 := (h2.fr f1 fun _ _ _ h => h).fr fd fun _ _ _ h => h
    have f2 := f1.trans' fd
    unfold S28_k1
    generalize w1.drew = w2 at k2 o2 fd f2 ⊢
    obtain ⟨t, hA, _, c0, c1, c2⟩ := own_wt o2.rd hx
    rw [Int.toNat_natCast]
    have hq := (k2.cell 0).trans (rfl : _ = some (Value.slice A Q.ws.length c))
    have hst : w2.cell? ((⟨q, 0, none⟩ : Addr).add 2) = some (.int .i64 (Q.st : Int)) := by rw [add_g]; exact (k2.cell 2).trans rfl
    have hm : (0 : Int) ≤ (Q.st : Int) * (5 - x.pr) ∧ (Q.st : Int) * (5 - x.pr) ≤ 5000 := by
      obtain ⟨p1, p2, _⟩ := hwo
      have h5 : (5 - x.pr) = 0 ∨ (5 - x.pr) = 1 ∨ (5 - x.pr) = 2 ∨ (5 - x.pr) = 3 ∨ (5 - x.pr) = 4 ∨ (5 - x.pr) = 5 := by omega
      rcases h5 with e | e | e | e | e | e <;> rw [e] <;> omega
    have b0 : (0 : Int) ≤ (i : Int) := by omega
    have b1 : (i : Int) < ((Q.ws.length : Nat) : Int) := by omega
    have ed : decide ((IntKind.i64.wrap ((Q.st : Int) * (IntKind.i64.wrap (5 - x.pr)))) ≤ x.bp) = due Q.st x := by
      rw [IntWalk.i64_in (5 - x.pr) (by have := hwo.1; have := hwo.2.1; omega), IntWalk.i64_in _ (by omega)]
      rfl
    have fin : S28_k2 (some ⟨q, 0, none⟩) (bst Q.ws i) (i : Int) (decide ((IntKind.i64.wrap ((Q.st : Int) * (IntKind.i64.wrap (5 - x.pr)))) ≤ x.bp)) w2 (fun v w' => v = .int .i64 (pl Q) ∧ Fr none1 w w') (fun s' w'' => (∃ i : Nat, s'.2.1 = (i : Int) ∧ i ≤ Q.ws.length ∧ s'.1 = bst Q.ws i ∧ (∀ (k : Nat) (y : Wt), k < i → Q.ws[k]? = some y → due Q.st y = false) ∧ Fr none1 w w'') ∧ Q.ws.length - s'.2.1.toNat < Q.ws.length - (i : Int).toNat) := by
      rw [ed]
      refine cB (fun hd => ?_) (fun hd => ?_)
      · unfold pl
        rw [if_neg (fun e => by rw [e] at hlt'; simp at hlt'), fi_some hx hd hno]
        exact ⟨rfl, f2⟩
      · have hno' : ∀ (k : Nat) (y : Wt), k < i + 1 → Q.ws[k]? = some y → due Q.st y = false := fun k y hk hy => by
          by_cases e : k = i
          · subst e; rw [hx] at hy; cases hy; exact hd
          · exact hno k y (by omega) hy
        have fd3 : Fr none1 w2 w2.drew := Fr.drew w2
        have k3 := k2.fr fd3 fun h => h
        have o3 := o2.fr fd3 fun _ _ _ h => h
        have f3 := f2.trans' fd3
        unfold S28_k3
        generalize w2.drew = w3 at k3 o3 fd3 f3 ⊢
        have nextI : IntKind.i64.wrap ((i : Int) + 1) = ((i + 1 : Nat) : Int) := by rw [IntWalk.i64_in _ (by omega)]; rfl
        have ei := prI_at hx
        have hs := bestN_succ Q.ws i
        refine cD (fun hz => ?_) (fun hz => ?_)
        · have hi0 : i = 0 := by
            unfold bst at hz
            split at hz
            · assumption
            · omega
          subst hi0
          have g : S28_k4 (some ⟨q, 0, none⟩) (bst Q.ws 0) ((0 : Nat) : Int) true w3 (fun v w' => v = .int .i64 (pl Q) ∧ Fr none1 w w') (fun s' w'' => (∃ i : Nat, s'.2.1 = (i : Int) ∧ i ≤ Q.ws.length ∧ s'.1 = bst Q.ws i ∧ (∀ (k : Nat) (y : Wt), k < i → Q.ws[k]? = some y → due Q.st y = false) ∧ Fr none1 w w'') ∧ Q.ws.length - s'.2.1.toNat < Q.ws.length - ((0 : Nat) : Int).toNat) := by
            refine cT rfl ?_
            rw [nextI]
            refine ⟨⟨1, rfl, by omega, ?_, hno', f3⟩, by dsimp only; omega⟩
            unfold bst
            rw [if_neg (by decide)]
            have hb1 := bestN_le Q.ws 1
            show ((0 : Nat) : Int) = (bestN Q.ws 1 : Int)
            omega
          exact ⟨g, g⟩
        · have hi0 : i ≠ 0 := by
            intro e
            apply hz
            unfold bst
            rw [if_pos e]; decide
          have eb : bst Q.ws i = (bestN Q.ws i : Int) := if_neg hi0
          rw [eb]
          have hbl := bestN_le Q.ws i
          have hbx : Q.ws[bestN Q.ws i]? = some Q.ws[bestN Q.ws i] := List.getElem?_eq_getElem (by omega)
          have ebp := prI_at hbx
          obtain ⟨t3, hA3, _, _, d1, _⟩ := own_wt o3.rd hx
          obtain ⟨t4, hA4, _, _, e1, _⟩ := own_wt o3.rd hbx
          rw [Int.toNat_natCast, Int.toNat_natCast]
          have hq3 := (k3.cell 0).trans (rfl : _ = some (Value.slice A Q.ws.length c))
          have bb0 : (0 : Int) ≤ (bestN Q.ws i : Int) := by omega
          have bb1 : (bestN Q.ws i : Int) < ((Q.ws.length : Nat) : Int) := by omega
          have g : S28_k4 (some ⟨q, 0, none⟩) (bestN Q.ws i : Int) (i : Int) (decide (Q.ws[bestN Q.ws i].pr < x.pr)) w3 (fun v w' => v = .int .i64 (pl Q) ∧ Fr none1 w w') (fun s' w'' => (∃ i : Nat, s'.2.1 = (i : Int) ∧ i ≤ Q.ws.length ∧ s'.1 = bst Q.ws i ∧ (∀ (k : Nat) (y : Wt), k < i → Q.ws[k]? = some y → due Q.st y = false) ∧ Fr none1 w w'') ∧ Q.ws.length - s'.2.1.toNat < Q.ws.length - (i : Int).toNat) := by
            rw [ei, ebp] at hs
            refine cD (fun hc => ?_) (fun hc => ?_)
            · rw [if_pos hc] at hs
              rw [nextI]
              exact ⟨⟨i + 1, rfl, by omega, by unfold bst; rw [if_neg (by omega), hs], hno', f3⟩, by dsimp only; omega⟩
            · rw [if_neg hc] at hs
              rw [nextI]
              exact ⟨⟨i + 1, rfl, by omega, by unfold bst; rw [if_neg (by omega), hs], hno', f3⟩, by dsimp only; omega⟩
          exact ⟨_, rfl, _, rfl, ⟨A, _, c, hq3, t3, hA3, b0, b1, A, _, c, hq3, t4, hA4, bb0, bb1, _, d1, _, e1, g⟩, ⟨A, _, c, hq3, t4, hA4, bb0, bb1, A, _, c, hq3, t3, hA3, b0, b1, _, d1, _, e1, g⟩⟩
    refine ⟨_, rfl, _, rfl, _, rfl, ?_⟩
    repeat' first
      | exact fin
      | refine ⟨_, _, _, hq, ?_⟩
      | refine ⟨t, hA, b0, b1, ?_⟩
      | refine ⟨_, hst, ?_⟩
      | refine ⟨_, c1, ?_⟩
      | refine ⟨_, c2, ?_⟩
      | refine ⟨?_, ?_⟩
  · have hge : i = Q.ws.length := by have : ¬ (i : Int) < (Q.ws.length : Int) := hlt; omega
    have hf := fi_none fun k y hy => hno k y (by rw [hge]; exact (List.getElem?_eq_some_iff.1 hy).1) hy
    unfold pl
    rw [hf]
    refine ⟨?_, f1⟩
    by_cases he : Q.ws = []
    · rw [if_pos he]
      have : i = 0 := by rw [hge, he]; rfl
      subst this; rfl
    · rw [if_neg he]
      have hpos : i ≠ 0 := by
        intro e
        rw [e] at hge
        exact he (List.eq_nil_of_length_eq_zero hge.symm)
      unfold bst
      rw [if_neg hpos, hge]
end
end Go.Proofs
