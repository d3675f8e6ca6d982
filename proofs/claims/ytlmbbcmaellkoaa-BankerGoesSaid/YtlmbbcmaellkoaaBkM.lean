/- Sets of zones as bits. -/
import Derived.Test.YtlmbbcmaellkoaaBkP
import Derived.Test.YtlmbbcmaellkoaaEng8
set_option linter.unusedVariables false
namespace Go.Eng
open Go
theorem and32 {a b : Nat} (ha : a < 2 ^ 32) (hb : b < 2 ^ 32) : bitsI .and .u32 (a : Int) (b : Int) = ((a &&& b : Nat) : Int) := by
  have h : a &&& b < 2 ^ 32 := Nat.lt_of_le_of_lt Nat.and_le_left ha
  have e : ((BitVec.ofInt 32 (a : Int) &&& BitVec.ofInt 32 (b : Int)).toNat) = a &&& b := by
    simp [BitVec.toNat_and]
    rw [Nat.mod_eq_of_lt ha, Nat.mod_eq_of_lt hb]
  show IntKind.u32.wrap (((BitVec.ofInt 32 (a : Int) &&& BitVec.ofInt 32 (b : Int)).toNat : Nat) : Int) = _
  rw [e]
  simp [IntKind.wrap, IntKind.bits, IntKind.signed]
  omega
theorem or32 {a b : Nat} (ha : a < 2 ^ 32) (hb : b < 2 ^ 32) : bitsI .or .u32 (a : Int) (b : Int) = ((a ||| b : Nat) : Int) := by
  have h : a ||| b < 2 ^ 32 := Nat.or_lt_two_pow ha hb
  have e : ((BitVec.ofInt 32 (a : Int) ||| BitVec.ofInt 32 (b : Int)).toNat) = a ||| b := by
    simp [BitVec.toNat_or]
    rw [Nat.mod_eq_of_lt ha, Nat.mod_eq_of_lt hb]
  show IntKind.u32.wrap (((BitVec.ofInt 32 (a : Int) ||| BitVec.ofInt 32 (b : Int)).toNat : Nat) : Int) = _
  rw [e]
  simp [IntKind.wrap, IntKind.bits, IntKind.signed]
  omega
theorem shl32_all : ∀ z : Fin 26, IntKind.u32.wrap (1 * 2 ^ (min (Int.toNat ((z.val : Nat) : Int)) IntKind.u32.bits)) = ((2 ^ z.val : Nat) : Int) := by decide +kernel
theorem shl32 {z : Int} (h0 : 0 ≤ z) (h1 : z < 26) : IntKind.u32.wrap (1 * 2 ^ (min (Int.toNat z) IntKind.u32.bits)) = ((2 ^ z.toNat : Nat) : Int) := by
  have := shl32_all ⟨z.toNat, by omega⟩
  simp only at this
  rw [show ((z.toNat : Nat) : Int) = z by omega] at this
  exact this
/-- A set of zones, as bits. -/
def Mask (m : Nat) (l : List Int) : Prop := m < 2 ^ 26 ∧ ∀ z : Nat, m.testBit z = l.contains (z : Int)
theorem Mask.lt {m : Nat} {l : List Int} (h : Mask m l) : m < 2 ^ 32 := by have := h.1; omega
theorem Mask.nil : Mask 0 [] := ⟨by decide, fun z => by simp⟩
theorem Mask.or {a b : Nat} {l k : List Int} (ha : Mask a l) (hb : Mask b k) : Mask (a ||| b) (l ++ k) :=
  ⟨Nat.or_lt_two_pow ha.1 hb.1, fun z => by rw [Nat.testBit_or, ha.2, hb.2, Bool.eq_iff_iff]; simp⟩
theorem Mask.one {z : Int} (h0 : 0 ≤ z) (h1 : z < 26) : Mask (2 ^ z.toNat) [z] := by
  refine ⟨Nat.pow_lt_pow_right (by decide) (by omega), fun k => ?_⟩
  rw [Nat.testBit_two_pow, Bool.eq_iff_iff]
  simp
  omega
theorem Mask.congr {m : Nat} {l k : List Int} (h : Mask m l) (e : ∀ z, z ∈ l ↔ z ∈ k) : Mask m k :=
  ⟨h.1, fun z => by rw [h.2, Bool.eq_iff_iff]; simpa using e (z : Int)⟩
theorem Mask.and {a b : Nat} {l k : List Int} (ha : Mask a l) (hb : Mask b k) (hl : ∀ z ∈ l, 0 ≤ z) : a &&& b = 0 ↔ disj l k = true := by
  rw [disj_iff]
  constructor
  · intro h z hz hk
    have h1 : (a &&& b).testBit z.toNat = false := by rw [h]; simp
    have h0 := hl z hz
    rw [Nat.testBit_and, ha.2, hb.2, show ((z.toNat : Nat) : Int) = z by omega] at h1
    simp [hz, hk] at h1
  · intro h
    apply Nat.eq_of_testBit_eq
    intro z
    rw [Nat.testBit_and, ha.2, hb.2, Nat.zero_testBit]
    by_cases hz : (z : Int) ∈ l
    · simp [h _ hz]
    · simp [hz]
theorem Mask.dec {a b : Nat} {l k : List Int} (ha : Mask a l) (hb : Mask b k) (hl : ∀ z ∈ l, 0 ≤ z) : decide (bitsI .and .u32 (a : Int) (b : Int) = 0) = disj l k := by
  rw [and32 ha.lt hb.lt, Bool.eq_iff_iff, ← ha.and hb hl, decide_eq_true_iff]
  omega
end Go.Eng
