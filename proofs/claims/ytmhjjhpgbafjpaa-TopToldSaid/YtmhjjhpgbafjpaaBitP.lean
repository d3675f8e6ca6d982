/- Bits as lists of truth values: numbers, counts, bytes; the reader, without the program. -/
import Derived.Test.YtmhjjhpgbafjpaaHp5
set_option linter.unusedVariables false
namespace Go.Eng
open Go
/-! ### Numbers as bits -/
/-- The k lowest bits of n, the highest first. -/
def nb (n : Nat) : Nat → List Bool
  | 0 => []
  | k + 1 => n.testBit k :: nb n k
theorem nb_length (n : Nat) : ∀ k, (nb n k).length = k
  | 0 => rfl
  | k + 1 => by simp [nb, nb_length n k]
/-- Bits as a number. -/
def vl (l : List Bool) : Nat := l.foldl (fun a b => 2 * a + b.toNat) 0
theorem vl_foldl (l : List Bool) : ∀ a : Nat, l.foldl (fun a b => 2 * a + b.toNat) a = a * 2 ^ l.length + vl l := by
  induction l with
  | nil => intro a; simp [vl]
  | cons b l ih =>
    intro a
    unfold vl
    rw [List.foldl_cons, List.foldl_cons, ih, ih (2 * 0 + b.toNat), List.length_cons, Nat.pow_succ, Nat.add_mul, Nat.add_mul]
    have : 2 * a * 2 ^ l.length = a * (2 ^ l.length * 2) := by rw [Nat.mul_comm 2 a, Nat.mul_assoc, Nat.mul_comm 2]
    omega
theorem vl_cons (b : Bool) (l : List Bool) : vl (b :: l) = b.toNat * 2 ^ l.length + vl l := by
  have h : vl (b :: l) = l.foldl (fun a b => 2 * a + b.toNat) (2 * 0 + b.toNat) := rfl
  rw [h, vl_foldl]; simp
theorem vl_append (l m : List Bool) : vl (l ++ m) = vl l * 2 ^ m.length + vl m := by
  unfold vl; rw [List.foldl_append, vl_foldl m]; rfl
theorem vl_snoc (l : List Bool) (b : Bool) : vl (l ++ [b]) = 2 * vl l + b.toNat := by
  rw [vl_append, vl_cons]; simp [vl]; omega
theorem vl_lt (l : List Bool) : vl l < 2 ^ l.length := by
  induction l with
  | nil => simp [vl]
  | cons b l ih =>
    rw [vl_cons, List.length_cons, Nat.pow_succ]
    cases b <;> simp <;> omega
theorem vl_nb (n : Nat) : ∀ k, vl (nb n k) = n % 2 ^ k
  | 0 => by simp [nb, vl, Nat.mod_one]
  | k + 1 => by
    rw [nb, vl_cons, nb_length, vl_nb n k, Nat.testBit_eq_decide_div_mod_eq, Nat.mod_pow_succ, Nat.mul_comm (2 ^ k)]
    have h : (decide (n / 2 ^ k % 2 = 1)).toNat = n / 2 ^ k % 2 := by
      rcases Nat.mod_two_eq_zero_or_one (n / 2 ^ k) with e | e <;> simp [e]
    rw [h]; omega
theorem nb_vl (l : List Bool) : nb (vl l) l.length = l := by
  induction l with
  | nil => rfl
  | cons b l ih =>
    have hl := vl_lt l
    rw [List.length_cons, nb]
    congr 1
    · rw [vl_cons, Nat.testBit_eq_decide_div_mod_eq]
      rw [Nat.add_comm, Nat.add_mul_div_right _ _ (Nat.two_pow_pos _), Nat.div_eq_of_lt hl]
      cases b <;> simp
    · rw [vl_cons]
      refine Eq.trans ?_ ih
      have key : ∀ k, k ≤ l.length → nb (b.toNat * 2 ^ l.length + vl l) k = nb (vl l) k := by
        intro k hk
        induction k with
        | zero => rfl
        | succ k ih2 =>
          rw [nb, nb, ih2 (by omega)]
          congr 1
          have e := Nat.testBit_two_pow_mul_add (b := vl l) b.toNat hl k
          rw [Nat.mul_comm] at e
          rw [e, if_pos (by omega)]
      exact key _ (Nat.le_refl _)
theorem nb_mod (n : Nat) {k m : Nat} (h : k ≤ m) : nb (n % 2 ^ m) k = nb n k := by
  induction k with
  | zero => rfl
  | succ k ih =>
    rw [nb, nb, ih (by omega), Nat.testBit_mod_two_pow]
    simp; omega
/-- How many bits a number has, less 1. -/
abbrev lg (m : Nat) : Nat := m.log2
/-- A count's bits. -/
def cb (n : Nat) : List Bool := List.replicate (lg (n + 1)) false ++ nb (n + 1) (lg (n + 1) + 1)
theorem cb_length (n : Nat) : (cb n).length = 2 * lg (n + 1) + 1 := by
  simp [cb, nb_length]; omega
/-! ### Bits in bytes -/
def bitAt (L : List Bool) (k : Nat) : Nat := (L.getD k false).toNat
def byteAt (L : List Bool) (i : Nat) : Nat := vl ((L.drop (8 * i)).take 8 ++ List.replicate (8 - ((L.drop (8 * i)).take 8).length) false)
theorem byteAt_lt (L : List Bool) (i : Nat) : byteAt L i < 256 := by
  unfold byteAt
  refine Nat.lt_of_lt_of_le (vl_lt _) ?_
  have : ((L.drop (8 * i)).take 8 ++ List.replicate (8 - ((L.drop (8 * i)).take 8).length) false).length = 8 := by
    simp; omega
  rw [this]; decide
def pk (L : List Bool) : List UInt8 := (List.range ((L.length + 7) / 8)).map fun i => UInt8.ofNat (byteAt L i)
theorem pk_length (L : List Bool) : (pk L).length = (L.length + 7) / 8 := by simp [pk]
theorem pk_get (L : List Bool) {i : Nat} (h : i < (L.length + 7) / 8) : (pk L)[i]? = some (UInt8.ofNat (byteAt L i)) := by
  simp [pk, h]
/-- A byte's bits. -/
def by8 (b : UInt8) : List Bool := nb b.toNat 8
/-- The bits of bytes. -/
def up8 (xs : List UInt8) : List Bool := xs.flatMap by8
theorem by8_length (b : UInt8) : (by8 b).length = 8 := nb_length _ _
theorem up8_length (xs : List UInt8) : (up8 xs).length = 8 * xs.length := by
  induction xs with
  | nil => rfl
  | cons x xs ih => simp [up8] at ih ⊢; rw [by8_length]; omega
theorem up8_get {xs : List UInt8} {i : Nat} {b : UInt8} (h : xs[i]? = some b) {j : Nat} (hj : j < 8) : (up8 xs)[8 * i + j]? = (by8 b)[j]? := by
  induction xs generalizing i with
  | nil => cases h
  | cons x xs ih =>
    unfold up8 at ih ⊢
    rw [List.flatMap_cons]
    cases i with
    | zero =>
      simp at h; subst h
      rw [List.getElem?_append_left (by rw [by8_length]; omega)]
      simp
    | succ i =>
      simp at h
      rw [List.getElem?_append_right (by rw [by8_length]; omega), by8_length]
      rw [show 8 * (i + 1) + j - 8 = 8 * i + j by omega]
      exact ih h
theorem up8_append (xs ys : List UInt8) : up8 (xs ++ ys) = up8 xs ++ up8 ys := by simp [up8]
theorem nb_get (n : Nat) : ∀ {k j : Nat}, j < k → (nb n k)[j]? = some (n.testBit (k - 1 - j))
  | k + 1, 0, _ => by simp [nb]
  | k + 1, j + 1, h => by
    rw [nb, List.getElem?_cons_succ, nb_get n (by omega)]
    congr 2; omega
end Go.Eng
