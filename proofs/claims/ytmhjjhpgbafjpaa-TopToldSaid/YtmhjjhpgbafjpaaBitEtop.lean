/- The reference's bits, counts and bytes: contracts. -/
import Derived.Test.YtmhjjhpgbafjpaaBitDtop
set_option linter.unusedVariables false
namespace Go.Proofs
open Go Go.Eng
theorem half_nat (n j : Nat) (hn : n < 2 ^ 64) : IntKind.u64.wrap (Int.tdiv ((n / 2 ^ j : Nat) : Int) 2) = ((n / 2 ^ (j + 1) : Nat) : Int) := by
  have h1 := Nat.div_le_self n (2 ^ j)
  rw [Nat.pow_succ, ← Nat.div_div_eq_div_mul]
  generalize n / 2 ^ j = q at h1 ⊢
  rw [Int.tdiv_eq_ediv_of_nonneg (by omega), IntWalk.u64_in _ (by omega)]
  omega
theorem odd_nat (n j : Nat) : decide (Int.tmod ((n / 2 ^ j : Nat) : Int) 2 = 1) = n.testBit j := by
  rw [Nat.testBit_eq_decide_div_mod_eq]
  generalize n / 2 ^ j = q
  rw [Int.tmod_eq_emod_of_nonneg (by omega), decide_eq_decide]
  omega
theorem u8_add {a b : Nat} (h : a + b < 256) : IntKind.u8.wrap ((a : Int) + (b : Int)) = ((a + b : Nat) : Int) := by
  rw [IntWalk.u8_in _ (by omega)]; omega
theorem pow_half : ∀ r : Fin 8, ∀ k : Fin 9, k.val < r.val → IntKind.u8.wrap (Int.tdiv ((128 / 2 ^ k.val : Nat) : Int) 2) = ((128 / 2 ^ (k.val + 1) : Nat) : Int) := by decide +kernel
theorem pow_end : ∀ r : Fin 8, 128 / 2 ^ r.val = 2 ^ (7 - r.val) := by decide +kernel
end Go.Proofs
