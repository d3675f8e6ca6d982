/- Counts and the end, of the program's reader; the reference's reader. -/
import Derived.Test.YtmhjjhpgbafjpaaBitFtop
set_option linter.unusedVariables false
namespace Go.Proofs
open Go Go.Eng
theorem vl_pos {l : List Bool} {i : Nat} (h : l[i]? = some true) (k : Nat) : 1 ≤ vl ((l.drop i).take (k + 1)) := by
  have hi := (List.getElem?_eq_some_iff.1 h).1
  rw [List.drop_eq_getElem_cons hi, (List.getElem?_eq_some_iff.1 h).2, List.take_succ_cons, vl_cons]
  have := Nat.two_pow_pos ((l.drop (i + 1)).take k).length
  simp only [Bool.toNat_true]; omega
section
variable {w : World} {ok : Nat → Prop} {b : Nat} {xs : List UInt8} {i : Nat} {E : Int}
theorem rcount_ok (h : RdrAt w ok b xs i E) : Ret Try.prog 53 [.pointer (some ⟨b, 0, none⟩)] w fun v w' => v = .int .u64 (rcV ⟨up8 xs, i, E⟩ : Int) ∧ RdrAt w' ok b xs (rcS ⟨up8 xs, i, E⟩).i (rcS ⟨up8 xs, i, E⟩).E ∧ Fr (fun k => k = b) w w' := by
  apply S53_calls
  have hU := up8_length xs
  obtain ⟨_, _, c2⟩ := h.cells
  have hh := h
  obtain ⟨_, hi, hm, _⟩ := hh
  refine cF rfl ⟨_, rfl, _, c2, ?_⟩
  refine cN (fun hE => ?_) (fun hE => ?_)
  · have e : rcE ⟨up8 xs, i, E⟩ = E := by unfold rcE; rw [if_pos hE]
    unfold rcV rcS
    rw [e, if_neg hE, if_neg hE]
    exact ⟨rfl, h, Fr.refl _ _⟩
  · subst hE
    refine (left_ok h).use ?_
    rintro v w1 ⟨rfl, h1, f1⟩
    have f1' : Fr (fun k => k = b) w w1 := f1.mono fun _ _ h => h.elim
    refine ⟨_, rfl, ?_⟩
    have hleft : Rs.left ⟨up8 xs, i, 0⟩ = 8 * (xs.length : Int) - (i : Int) := by show ((up8 xs).length : Int) - (i : Int) = _; rw [hU]; omega
    have hdl : ((up8 xs).drop i).length = 8 * xs.length - i := by rw [List.length_drop, hU]
    refine ⟨fun s w' => ∃ k : Nat, s.1 = (k : Int) ∧ k ≤ 8 * xs.length - i ∧ (∀ j, j < k → ((up8 xs).drop i)[j]? = some false) ∧ RdrAt w' ok b xs i 0 ∧ Fr (fun k => k = b) w w', fun s _ => 8 * xs.length - i - s.1.toNat, ⟨0, rfl, Nat.zero_le _, fun j hj => by omega, h1, f1'⟩, ?_⟩
    rintro J ⟨k', ⟨⟩⟩ w2 ⟨k, hk, hle, hz, h2, f2⟩
    dsimp only at hk ⊢
    subst hk
    have out : (k = ((up8 xs).drop i).length ∨ ((up8 xs).drop i)[k]? = some true) → S53_k5 (some ⟨b, 0, none⟩) (8 * (xs.length : Int) - (i : Int)) (k : Int) w2 (fun v w' => v = .int .u64 (rcV ⟨up8 xs, i, 0⟩ : Int) ∧ RdrAt w' ok b xs (rcS ⟨up8 xs, i, 0⟩).i (rcS ⟨up8 xs, i, 0⟩).E ∧ Fr (fun k => k = b) w w') := by
      intro he
      have hzs : zs ((up8 xs).drop i) = k := zs_eq hz he
      refine cD (fun h63 => ?_) (fun h63 => ?_)
      · have e : rcE ⟨up8 xs, i, 0⟩ = 4 := by unfold rcE; rw [if_neg (by simp), if_pos (by simp only [hzs]; omega)]
        unfold rcV rcS
        rw [e]
        obtain ⟨s1, s2, s3, s4⟩ := h2.setE 4
        exact ⟨_, rfl, s1, s2, rfl, s3, f2.trans' s4⟩
      · rw [IntWalk.i64_in (2 * (k : Int)) (by omega), IntWalk.i64_in (2 * (k : Int) + 1) (by omega)]
        refine cD (fun hs => ?_) (fun hs => ?_)
        · have e : rcE ⟨up8 xs, i, 0⟩ = 10 := by unfold rcE; rw [if_neg (by simp), if_neg (by simp only [hzs]; omega), if_pos (by simp only [hzs]; omega)]
          unfold rcV rcS
          rw [e]
          obtain ⟨s1, s2, s3, s4⟩ := h2.setE 10
          exact ⟨_, rfl, s1, s2, rfl, s3, f2.trans' s4⟩
        · have e : rcE ⟨up8 xs, i, 0⟩ = 0 := by unfold rcE; rw [if_neg (by simp), if_neg (by simp only [hzs]; omega), if_neg (by simp only [hzs]; omega)]
          unfold rcV rcS
          rw [e, if_pos rfl, if_pos rfl]
          simp only [hzs]
          obtain ⟨_, c1, _⟩ := h2.cells
          obtain ⟨s1, s2, s3, s4⟩ := h2.setI (i' := i + k) (by omega)
          refine ⟨_, rfl, _, c1, _, rfl, s1, s2, ?_⟩
          rw [IntWalk.i64_in ((i : Int) + (k : Int)) (by omega), IntWalk.i64_in ((k : Int) + 1) (by omega), show (i : Int) + (k : Int) = ((i + k : Nat) : Int) by omega]
          refine (get_ok s3 ((k : Int) + 1)).use ?_
          have eg : getE ⟨up8 xs, i + k, 0⟩ ((k : Int) + 1) = 0 := by
            unfold getE Rs.left
            simp only [hU]
            rw [if_neg (by simp), if_neg (by omega), if_neg (by omega)]
          unfold getV getS
          rw [eg, if_pos rfl, if_pos rfl, show ((k : Int) + 1).toNat = k + 1 by omega]
          dsimp only
          rintro v w3 ⟨rfl, h3, f3⟩
          have ht : (up8 xs)[i + k]? = some true := by
            rcases he with he | he
            · omega
            · rw [List.getElem?_drop] at he; exact he
          have hp := vl_pos ht k
          have hv := vl_lt (((up8 xs).drop (i + k)).take (k + 1))
          have hl2 : (((up8 xs).drop (i + k)).take (k + 1)).length = k + 1 := by rw [List.length_take, List.length_drop]; omega
          rw [hl2] at hv
          have hpow : 2 ^ (k + 1) ≤ 2 ^ 64 := Nat.pow_le_pow_right (by decide) (by omega)
          refine ⟨_, rfl, ?_, ?_, (f2.trans' s4).trans' f3⟩
          · rw [IntWalk.u64_in _ (by omega)]
            congr 1; omega
          · rw [show i + (2 * k + 1) = i + k + (k + 1) by omega]; exact h3
    refine cD (fun hlt => ?_) (fun hlt => ?_)
    · have hx : (up8 xs)[i + k]? = some (up8 xs)[i + k] := List.getElem?_eq_getElem (by omega)
      refine (one_ok h2 hx).use ?_
      rintro v w2 ⟨rfl, rfl⟩
      refine ⟨_, rfl, ?_⟩
      cases hb : (up8 xs)[i + k] with
      | true =>
        refine cF rfl (out (.inr ?_))
        rw [List.getElem?_drop, hx, hb]
      | false =>
        refine cT rfl ?_
        unfold S53_k4
        rw [IntWalk.i64_in ((k : Int) + 1) (by omega)]
        refine ⟨⟨k + 1, rfl, by omega, fun j hj => ?_, h2, f2⟩, by dsimp only; omega⟩
        by_cases e : j = k
        · subst e; rw [List.getElem?_drop, hx, hb]
        · exact hz j (by omega)
    · exact cF rfl (out (.inl (by omega)))
theorem end_ok (h : RdrAt w ok b xs i E) : Ret Try.prog 54 [.pointer (some ⟨b, 0, none⟩)] w fun v w' => v = .int .i64 (endV ⟨up8 xs, i, E⟩) ∧ RdrAt w' ok b xs i E ∧ Fr none1 w w' := by
  apply S54_calls
  have hU := up8_length xs
  obtain ⟨_, _, c2⟩ := h.cells
  have hh := h
  obtain ⟨_, hi, hm, _⟩ := hh
  refine cF rfl ⟨_, rfl, _, c2, ?_⟩
  refine cN (fun hE => ?_) (fun hE => ?_)
  · have e : endV ⟨up8 xs, i, E⟩ = E := by unfold endV; rw [if_pos hE]
    rw [e]
    exact ⟨_, rfl, _, c2, rfl, h, Fr.refl _ _⟩
  · subst hE
    refine (left_ok h).use ?_
    rintro v w1 ⟨rfl, h1, f1⟩
    refine ⟨_, rfl, ?_⟩
    have hleft : Rs.left ⟨up8 xs, i, 0⟩ = 8 * (xs.length : Int) - (i : Int) := by show ((up8 xs).length : Int) - (i : Int) = _; rw [hU]; omega
    refine cD (fun h7 => ?_) (fun h7 => ?_)
    · have e : endV ⟨up8 xs, i, 0⟩ = 11 := by unfold endV; rw [if_neg (by simp), if_pos (by omega)]
      rw [e]; exact ⟨rfl, h1, f1⟩
    · have e : endV ⟨up8 xs, i, 0⟩ = if ((up8 xs).drop i).any id then 11 else 0 := by unfold endV; rw [if_neg (by simp), if_neg (by omega)]
      rw [e]
      refine ⟨fun s w' => w' = w1 ∧ ∃ k : Nat, s.1 = (k : Int) ∧ k ≤ 8 * xs.length - i ∧ (((up8 xs).drop i).take k).any id = false, fun s _ => 8 * xs.length - i - s.1.toNat, ⟨rfl, 0, rfl, Nat.zero_le _, by simp⟩, ?_⟩
      rintro J ⟨k', ⟨⟩⟩ w2 ⟨rfl, k, hk, hle, hz⟩
      dsimp only at hk ⊢
      subst hk
      refine cD (fun hlt => ?_) (fun hlt => ?_)
      · have hx : (up8 xs)[i + k]? = some (up8 xs)[i + k] := List.getElem?_eq_getElem (by omega)
        refine (one_ok h1 hx).use ?_
        rintro v w2 ⟨rfl, rfl⟩
        refine ⟨_, rfl, ?_⟩
        rw [IntWalk.i64_in ((k : Int) + 1) (by omega)]
        refine cB (fun hb => ?_) (fun hb => ?_)
        · have : ((up8 xs).drop i).any id = true := by
            rw [List.any_eq_true]
            refine ⟨true, ?_, rfl⟩
            rw [hb] at hx
            exact List.mem_of_getElem? (i := k) (by rw [List.getElem?_drop]; exact hx)
          rw [this]; exact ⟨rfl, h1, f1⟩
        · refine ⟨⟨rfl, k + 1, rfl, by omega, ?_⟩, by dsimp only; omega⟩
          rw [take_next hx, List.any_append, hz, hb]; rfl
      · have : k = ((up8 xs).drop i).length := by rw [List.length_drop, hU]; omega
        rw [this, List.take_length] at hz
        rw [hz]; exact ⟨rfl, h1, f1⟩
end
end Go.Proofs
