/- The law of turned bits. -/
import Derived.Test.YtkchikcbikkgeaaCkE02
import Derived.Test.YtkchikcbikkgeaaCkB
set_option linter.unusedVariables false
namespace Go.Proofs
open Go Go.Eng
theorem xorbit_all : ∀ n : Fin 256, ∀ r : Fin 8, bitsI .xor .u8 ((n.val : Nat) : Int) (Int.fdiv 128 (2 ^ (min (Int.toNat (r.val : Int)) (IntKind.u8.bits)))) = ((n.val ^^^ 2 ^ (7 - r.val) : Nat) : Int) := by decide +kernel
theorem bit16 (n k : Nat) (hk : k < 16) : decide (Int.tmod (Int.fdiv (n : Int) (2 ^ (min (Int.toNat (k : Int)) (IntKind.u16.bits)))) 2 = 1) = n.testBit k := by
  rw [shr_nat, Nat.min_eq_left (by simp [IntKind.bits]; omega), Nat.testBit_eq_decide_div_mod_eq]
  generalize n / 2 ^ k = q
  rw [Int.tmod_eq_emod_of_nonneg (by omega), decide_eq_decide]
  omega
section
variable {W : World} {A : Option Addr} {c : Nat} {xs : Bs}
theorem checkTells_ok (h : Rd W (fun k => k < W.heap.size) A (bvs xs)) (hc : xs.length ≤ c) (a : Nat) (ha : a < 2 ^ 64) (v : Nat) (hv : v < 65536) : Ret Try.prog 10 [.slice A xs.length c, .int .u64 (a : Int), .int .u16 (v : Int)] W (Done W) := by
  apply S10_calls
  refine (shown_ok W).use ?_
  rintro v1 w1 ⟨rfl, f1⟩
  refine ⟨_, rfl, ?_⟩
  obtain ⟨m, hm0, hm'⟩ := upto_n xs.length 1000
  have hm2 : (if (1000 : Int) < ((xs.length : Nat) : Int) then (1000 : Int) else ((xs.length : Nat) : Int)) = (m : Int) := hm0
  rw [hm2, Int.toNat_natCast, Nat.sub_zero, slAddr_zero]
  have hx1 := h.upto m
  have hxl : (xs.take m).length = m := by rw [List.length_take]; omega
  have hm3 : m ≤ c := by omega
  have hm4 : m ≤ 1000 := by omega
  refine ⟨by omega, by omega, ?_⟩
  generalize xs.take m = x at hx1 hxl
  subst hxl
  refine (frame_ok (c := c - 0) (hx1.new f1.bel0) (by omega)).use ?_
  rintro v2 w2 ⟨A3, c3, rfl, o3, f2⟩
  rw [frV_ok hm4] at o3 ⊢
  dsimp only at o3 ⊢
  have hfl := framed_length x
  have f12 := f1.trans' f2
  refine ⟨_, _, _, _, rfl, cF rfl ?_⟩
  rw [IntWalk.i64_in ((x.length : Int) + 4) (by omega), hfl, show ((x.length + 4 : Nat) : Int) = (x.length : Int) + 4 by omega]
  refine cF (by simp) ?_
  have hU : (up8 (framed x)).length = 8 * (framed x).length := up8_length _
  generalize hF0 : framed x = F0 at *
  have hS1 := f1.size
  have o3' : Own w2 5 1 (from1 W.heap.size) A3 F0.length c3 (bvs F0) := o3.mono fun k _ h => Nat.le_trans hS1 h.1
  rw [← hfl]
  unfold S10_k1
  have e8 : IntKind.i64.wrap (8 * (F0.length : Int)) = ((8 * F0.length : Nat) : Int) := by rw [IntWalk.i64_in _ (by omega)]; omega
  rw [e8, IntWalk.u64_in ((8 * F0.length : Nat) : Int) (by omega)]
  obtain ⟨first, hf, hf'⟩ : ∃ q : Nat, IntKind.i64.wrap (Int.tmod (a : Int) ((8 * F0.length : Nat) : Int)) = (q : Int) ∧ q < 8 * F0.length := by
    rw [Int.tmod_eq_emod_of_nonneg (by omega)]
    have h0 := Int.emod_nonneg (a : Int) (b := ((8 * F0.length : Nat) : Int)) (by omega)
    have h1 := Int.emod_lt_of_pos (a : Int) (b := ((8 * F0.length : Nat) : Int)) (by omega)
    rw [IntWalk.i64_in _ (by omega)]
    exact ⟨((a : Int) % ((8 * F0.length : Nat) : Int)).toNat, by omega, by omega⟩
  rw [hf]
  refine ⟨by omega, fun s w' => ∃ (k : Nat) (F : Bs), s.2.1 = (k : Int) ∧ k ≤ 16 ∧ first + k ≤ 8 * F0.length ∧ F.length = F0.length ∧ up8 F = flips (up8 F0) (mask (8 * F0.length) first v k) ∧ (s.1 = true ↔ ∃ j, j < k ∧ v.testBit j = true) ∧ Own w' 5 1 (from1 W.heap.size) A3 F0.length c3 (bvs F) ∧ Bel W.heap.size W w', fun s _ => 16 - s.2.1.toNat,
    ⟨0, F0, rfl, by decide, by omega, rfl, (flips_none hU).symm, by simp, o3', f12.bel0⟩, ?_⟩
  rintro J ⟨turned, k', ⟨⟩⟩ w3 ⟨k, F, hk, hk16, hfk, hFl, hF, htu, o4, g4⟩
  dsimp only at hk htu ⊢
  subst hk
  have e1 : IntKind.i64.wrap ((first : Int) + (k : Int)) = ((first + k : Nat) : Int) := by rw [IntWalk.i64_in _ (by omega)]; omega
  have k5 : S10_k5 true A x.length (c - 0) A3 F0.length c3 turned w3 (Done W) := by
    have ho := open_ok (c := c3) o4.rd (by rw [hFl]; exact o4.le) (by omega)
    rw [hFl] at ho
    refine ho.use ?_
    rintro v5 w5 ⟨A5, c5, rfl, o5, f5⟩
    refine ⟨_, _, _, _, rfl, cT rfl ?_⟩
    cases ht : turned with
    | true =>
      have en : openB F = none := by
        subst hF0
        exact tells hk16 hfk hF (htu.1 ht)
      rw [en]
      exact cT rfl (cT rfl ⟨rfl, (g4.trans' f5.bel0).top⟩)
    | false =>
      have eF : F = F0 := by
        refine up8_inj ?_
        rw [hF]
        have hz : mask (8 * F0.length) first v k = mask (8 * F0.length) first v 0 := by
          apply List.ext_getElem?
          intro p
          by_cases hp : p < 8 * F0.length
          · rw [mask_get hp, mask_get hp]
            have hno : ∀ j, j < k → v.testBit j = false := fun j hj => by
              cases hvj : v.testBit j with
              | false => rfl
              | true =>
                have := htu.2 ⟨j, hj, hvj⟩
                rw [ht] at this; cases this
            by_cases hin : first ≤ p ∧ p < first + k
            · rw [hno (p - first) (by omega)]; simp
            · have : ¬ (first ≤ p ∧ p < first + 0) := by omega
              simp only [hin, this, decide_false, Bool.false_and]
          · rw [List.getElem?_eq_none (by rw [mask_length]; omega), List.getElem?_eq_none (by rw [mask_length]; omega)]
        rw [hz, flips_none hU]
      have eo : openB F = some x := by rw [eF, ← hF0]; exact openB_some.2 ⟨hm4, rfl⟩
      rw [eo, Option.getD_some] at o5
      rw [eo, Option.getD_some]
      refine cT rfl (cF rfl ⟨_, w5, run_toString Uby Uu8 Ustr rfl o5.rd, _, w5, run_toString Uby Uu8 Ustr rfl (hx1.new (g4.trans' f5.bel0)), by simp, (g4.trans' f5.bel0).top⟩)
  refine cD (fun hlt => ?_) (fun hlt => cF rfl k5)
  rw [e1, e8]
  by_cases hin : first + k < 8 * F0.length
  · rw [decide_eq_true (show ((first + k : Nat) : Int) < ((8 * F0.length : Nat) : Int) by omega)]
    refine cT rfl ⟨by omega, by decide, ?_⟩
    rw [bit16 v k (by omega), e1, IntWalk.i64_in ((k : Int) + 1) (by omega)]
    have hU2 : (up8 F).length = 8 * F0.length := by rw [up8_length, hFl]
    refine cB (fun hvk => ?_) (fun hvk => ?_)
    · have e8' : IntKind.i64.wrap (Int.tdiv ((first + k : Nat) : Int) 8) = (((first + k) / 8 : Nat) : Int) := by
        rw [Int.tdiv_eq_ediv_of_nonneg (by omega), IntWalk.i64_in _ (by omega)]; omega
      have e9 : Int.tmod ((first + k : Nat) : Int) 8 = (((first + k) % 8 : Nat) : Int) := by rw [Int.tmod_eq_emod_of_nonneg (by omega)]; omega
      have fd : Fr none1 w3 w3.drew := Fr.drew w3
      have o5 := o4.fr fd fun _ _ _ h => h
      have g5 := g4.trans' fd.bel0
      generalize w3.drew = w4 at o5 g5 ⊢
      have hb : F[(first + k) / 8]? = some F[(first + k) / 8] := List.getElem?_eq_getElem (by omega)
      have hle := o5.le
      obtain ⟨g, rfl, hgW, _⟩ := o5.form (by omega)
      obtain ⟨p, hp, _, cx⟩ := o5.rd.at (bvs_get hb)
      cases hp
      obtain ⟨s1, s2⟩ := o5.store (j := (first + k) / 8) (by rw [bvs_length]; omega)
      have hxb := xorbit_all ⟨F[(first + k) / 8].toNat, F[(first + k) / 8].toNat_lt⟩ ⟨(first + k) % 8, by omega⟩
      simp only at hxb
      rw [e8', e9, Int.toNat_natCast, Nat.mul_one]
      refine ⟨by decide, _, rfl, by omega, by omega, by decide, by omega, _, cx, _, rfl, by omega, by omega, by rw [add_g]; exact s1, by rw [add_g]; exact s2, ?_⟩
      have hbv : bv F[(first + k) / 8] = .int .u8 (F[(first + k) / 8].toNat : Int) := rfl
      rw [add_g, hxb]
      have o6 := o5.set ((first + k) / 8) (.int .u8 ((F[(first + k) / 8].toNat ^^^ 2 ^ (7 - (first + k) % 8) : Nat) : Int))
      obtain ⟨_, hlt256⟩ := flip_all ⟨F[(first + k) / 8].toNat, F[(first + k) / 8].toNat_lt⟩ ⟨(first + k) % 8, by omega⟩
      simp only at hlt256
      rw [u8_set _ _ _ hlt256] at o6
      have hup := up8_flip hb
      have hbit : (flips (up8 F0) (mask (8 * F0.length) first v k))[first + k]? = some (F[(first + k) / 8].toNat.testBit (7 - (first + k) % 8)) := by
        rw [← hF]
        have := up8_get hb (j := (first + k) % 8) (by omega)
        rw [Nat.div_add_mod, by8_bit _ (by omega)] at this
        exact this
      have hset := flips_set hU hin hbit hvk
      refine ⟨⟨k + 1, F.set ((first + k) / 8) (flip8 F[(first + k) / 8] ((first + k) % 8)), rfl, by omega, by omega, by rw [List.length_set]; exact hFl, by rw [hup, hF, hset], ⟨fun _ => ⟨k, by omega, hvk⟩, fun _ => rfl⟩, o6, g5.trans' (Fr.setCell w4 (p := ⟨g, (first + k) / 8, none⟩) hgW _)⟩, by dsimp only; omega⟩
    · refine ⟨⟨k + 1, F, rfl, by omega, by omega, hFl, by rw [mask_succ, if_neg (by simp [hvk])]; exact hF, ⟨fun ht => ?_, fun ⟨j, hj, hvj⟩ => htu.2 ⟨j, ?_, hvj⟩⟩, o4, g4⟩, by dsimp only; omega⟩
      · obtain ⟨j, hj, hvj⟩ := htu.1 ht
        exact ⟨j, by omega, hvj⟩
      · by_cases e : j = k
        · subst e; rw [hvk] at hvj; cases hvj
        · omega
  · rw [decide_eq_false (show ¬ ((first + k : Nat) : Int) < ((8 * F0.length : Nat) : Int) by omega)]
    exact cF rfl k5
end
end Go.Proofs
