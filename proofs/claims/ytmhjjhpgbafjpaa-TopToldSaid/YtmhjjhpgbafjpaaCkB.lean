/- A frame of which a burst of bits is turned is none: without the program. -/
import Derived.Test.YtmhjjhpgbafjpaaCkF
set_option linter.unusedVariables false
namespace Go.Eng
open Go
theorem frame_crc (ys : Bs) : bcrc 0xFFFF#16 (up8 (framed ys)) = 0#16 := by
  unfold framed
  rw [up8_append, up8_wd, bcrc_append, ← crc_bits]
  have hs := (csum (headed ys)).isLt
  exact (sum_zero _ _ hs).2 rfl
/-- Which bits are turned. -/
def mask (n first : Nat) (v : Nat) (k : Nat) : List Bool := (List.range n).map fun p => decide (first ≤ p ∧ p < first + k) && v.testBit (p - first)
theorem mask_length (n first v k : Nat) : (mask n first v k).length = n := by simp [mask]
theorem mask_get {n first v k p : Nat} (h : p < n) : (mask n first v k)[p]? = some (decide (first ≤ p ∧ p < first + k) && v.testBit (p - first)) := by simp [mask, h]
theorem mask_form {n first v k : Nat} (h : first + k ≤ n) : mask n first v k = List.replicate first false ++ (List.range k).map (fun j => v.testBit j) ++ List.replicate (n - first - k) false := by
  apply List.ext_getElem?
  intro p
  by_cases hp : p < n
  · rw [mask_get hp]
    by_cases h1 : p < first
    · rw [List.append_assoc, List.getElem?_append_left (by simpa using h1), List.getElem?_replicate, if_pos h1]
      simp; omega
    · by_cases h2 : p < first + k
      · rw [List.append_assoc, List.getElem?_append_right (by simp; omega), List.getElem?_append_left (by simp; omega)]
        have h3 : p - first < k := by omega
        have h4 : first ≤ p := by omega
        simp [h3, h4, h2]
      · rw [List.getElem?_append_right (by simp; omega), List.getElem?_replicate]
        rw [if_pos (by simp; omega)]
        simp; omega
  · rw [List.getElem?_eq_none (by rw [mask_length]; omega), List.getElem?_eq_none (by simp; omega)]
def flips (L M : List Bool) : List Bool := List.zipWith (· ^^ ·) L M
theorem flips_get {L M : List Bool} {p : Nat} {a b : Bool} (h1 : L[p]? = some a) (h2 : M[p]? = some b) : (flips L M)[p]? = some (a ^^ b) := by
  unfold flips; simp [List.getElem?_zipWith, h1, h2]
/-- Turned frames are none. -/
theorem tells {ys F : Bs} {first v k : Nat} (hk : k ≤ 16) (hf : first + k ≤ 8 * (framed ys).length) (hF : up8 F = flips (up8 (framed ys)) (mask (8 * (framed ys).length) first v k)) (hv : ∃ j, j < k ∧ v.testBit j = true) : openB F = none := by
  cases e : openB F with
  | none => rfl
  | some zs =>
    exfalso
    obtain ⟨h1, h2⟩ := openB_some.1 e
    have c1 := frame_crc zs
    rw [← h2, hF] at c1
    have hl : (up8 (framed ys)).length = (mask (8 * (framed ys).length) first v k).length := by rw [mask_length, up8_length]
    have c2 := bcrc_xor (up8 (framed ys)) (mask (8 * (framed ys).length) first v k) 0xFFFF#16 0#16 hl
    rw [BitVec.xor_zero] at c2
    unfold flips at c1
    rw [c1, frame_crc, BitVec.zero_xor, mask_form hf] at c2
    refine burst (P := (List.range k).map (fun j => v.testBit j)) (by simpa using hk) ?_ c2.symm
    obtain ⟨j, hj, hb⟩ := hv
    exact List.mem_map.2 ⟨j, List.mem_range.2 hj, hb⟩
/-- One more bit. -/
theorem mask_succ {n first v k : Nat} : mask n first v (k + 1) = if v.testBit k then (mask n first v k).set (first + k) true else mask n first v k := by
  apply List.ext_getElem?
  intro p
  by_cases hp : p < n
  · rw [mask_get hp]
    split
    · rename_i hv
      rw [List.getElem?_set, mask_length]
      by_cases e : first + k = p
      · subst e
        have : first + k < first + (k + 1) := by omega
        rw [if_pos rfl, if_pos hp]
        simp [hv]
      · rw [if_neg e, mask_get hp]
        congr 2
        rw [decide_eq_decide]; omega
    · rename_i hv
      rw [mask_get hp]
      by_cases e : first + k = p
      · subst e
        simp [hv]
      · congr 2
        rw [decide_eq_decide]; omega
  · rw [List.getElem?_eq_none (by rw [mask_length]; omega), List.getElem?_eq_none (by split <;> simp [mask_length] <;> omega)]
theorem flip_all : ∀ n : Fin 256, ∀ r : Fin 8, nb (n.val ^^^ 2 ^ (7 - r.val)) 8 = (nb n.val 8).set r.val (!(n.val.testBit (7 - r.val))) ∧ n.val ^^^ 2 ^ (7 - r.val) < 256 := by decide +kernel
/-- A byte of which one bit is turned. -/
def flip8 (b : UInt8) (r : Nat) : UInt8 := UInt8.ofNat (b.toNat ^^^ 2 ^ (7 - r))
theorem by8_flip (b : UInt8) {r : Nat} (hr : r < 8) : by8 (flip8 b r) = (by8 b).set r (!(b.toNat.testBit (7 - r))) := by
  obtain ⟨h1, h2⟩ := flip_all ⟨b.toNat, b.toNat_lt⟩ ⟨r, hr⟩
  simp only at h1 h2
  unfold by8 flip8
  rw [UInt8.toNat_ofNat_of_lt' (by simpa using h2)]
  exact h1
theorem by8_bit (b : UInt8) {r : Nat} (hr : r < 8) : (by8 b)[r]? = some (b.toNat.testBit (7 - r)) := by
  unfold by8
  rw [nb_get _ hr, show 8 - 1 - r = 7 - r by omega]
/-- Bytes of which one bit is turned. -/
theorem up8_flip {F : Bs} {p : Nat} {b : UInt8} (hb : F[p / 8]? = some b) : up8 (F.set (p / 8) (flip8 b (p % 8))) = (up8 F).set p (!(b.toNat.testBit (7 - p % 8))) := by
  have hlt := (List.getElem?_eq_some_iff.1 hb).1
  apply List.ext_getElem?
  intro q
  by_cases hq : q < 8 * F.length
  · have hqx : F[q / 8]? = some F[q / 8] := List.getElem?_eq_getElem (by omega)
    have e0 := up8_get hqx (j := q % 8) (by omega)
    rw [Nat.div_add_mod] at e0
    by_cases h8 : q / 8 = p / 8
    · have hs : (F.set (p / 8) (flip8 b (p % 8)))[q / 8]? = some (flip8 b (p % 8)) := by rw [h8, List.getElem?_set_self hlt]
      have e1 := up8_get hs (j := q % 8) (by omega)
      rw [Nat.div_add_mod, by8_flip b (by omega), List.getElem?_set, by8_length] at e1
      have hqb : F[q / 8]? = some b := by rw [h8]; exact hb
      have e2 : F[q / 8] = b := Option.some.inj (hqx.symm.trans hqb)
      rw [e2] at e0
      rw [e1, List.getElem?_set, up8_length]
      by_cases hpq : p = q
      · subst hpq
        rw [if_pos rfl, if_pos rfl, if_pos (by omega), if_pos (by omega)]
      · rw [if_neg (by omega), if_neg hpq, e0]
    · have hs : (F.set (p / 8) (flip8 b (p % 8)))[q / 8]? = some F[q / 8] := by rw [List.getElem?_set_ne (Ne.symm h8)]; exact hqx
      have e1 := up8_get hs (j := q % 8) (by omega)
      rw [Nat.div_add_mod] at e1
      rw [e1, List.getElem?_set, if_neg (by intro e; subst e; exact h8 rfl), e0]
  · rw [List.getElem?_eq_none (by rw [up8_length, List.length_set]; omega), List.getElem?_eq_none (by rw [List.length_set, up8_length]; omega)]
/-- The bits of what has been turned so far, with one more turned. -/
theorem flips_set {L : List Bool} {n first v k : Nat} {x : Bool} (hn : L.length = n) (hp : first + k < n) (hx : (flips L (mask n first v k))[first + k]? = some x) (hv : v.testBit k = true) : flips L (mask n first v (k + 1)) = (flips L (mask n first v k)).set (first + k) (!x) := by
  have hL : L[first + k]? = some L[first + k] := List.getElem?_eq_getElem (by omega)
  have hm : (mask n first v k)[first + k]? = some false := by rw [mask_get hp]; simp
  rw [flips_get hL hm] at hx
  cases hx
  rw [mask_succ, if_pos hv]
  apply List.ext_getElem?
  intro q
  have hfl : (flips L (mask n first v k)).length = n := by unfold flips; rw [List.length_zipWith, mask_length]; omega
  by_cases hq : q < n
  · have hLq : L[q]? = some L[q] := List.getElem?_eq_getElem (by omega)
    have hmq : (mask n first v k)[q]? = some ((mask n first v k)[q]'(by rw [mask_length]; omega)) := List.getElem?_eq_getElem (by rw [mask_length]; omega)
    rw [List.getElem?_set, hfl]
    by_cases e : first + k = q
    · subst e
      rw [if_pos rfl, if_pos hq, flips_get hL (b := true) (by rw [List.getElem?_set_self (by rw [mask_length]; omega)])]
      simp
    · rw [if_neg e, flips_get hLq (b := (mask n first v k)[q]'(by rw [mask_length]; omega)) (by rw [List.getElem?_set_ne e]; exact hmq), flips_get hLq hmq]
  · rw [List.getElem?_eq_none (by unfold flips; rw [List.length_zipWith, List.length_set, mask_length]; omega), List.getElem?_eq_none (by rw [List.length_set, hfl]; omega)]
theorem flips_none {L : List Bool} {n first v : Nat} (hn : L.length = n) : flips L (mask n first v 0) = L := by
  apply List.ext_getElem?
  intro q
  by_cases hq : q < n
  · have hLq : L[q]? = some L[q] := List.getElem?_eq_getElem (by omega)
    rw [flips_get hLq (b := false) (by rw [mask_get hq]; simp; omega), hLq]; simp
  · rw [List.getElem?_eq_none (by unfold flips; rw [List.length_zipWith]; omega), List.getElem?_eq_none (by omega)]
theorem up8_inj {a b : Bs} (h : up8 a = up8 b) : a = b := by rw [← pk_up8 a, ← pk_up8 b, h]
end Go.Eng
