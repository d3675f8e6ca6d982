/- Disks: contracts of the reference. -/
import Derived.Test.YtmhjjhpgbafjpaaDkCtop
set_option linter.unusedVariables false
namespace Go.Proofs
open Go Go.Eng
theorem str_size (xs : List UInt8) : (str xs).size = xs.length := by simp [str, ByteArray.size]
theorem str_extract (xs : List UInt8) (n : Nat) : (str xs).extract 0 n = str (xs.take n) := by
  unfold str
  apply ByteArray.ext
  simp [ByteArray.data_extract]
theorem str_app (xs ys : List UInt8) : str xs ++ str ys = str (xs ++ ys) := by
  unfold str
  apply ByteArray.ext
  simp
def rcs (D : Dsk) : List Value := [.string (str D.bs), .int .i64 (D.safe : Int), .bool D.dead, .int .i64 D.fuse]
theorem pw_ok {D : Dsk} (h : DOk D) (hi : D.dead = true → D.fuse = -1) : DOk (pwD D) ∧ ((pwD D).dead = true → (pwD D).fuse = -1) ∧ (pwE D = 0 ↔ (pwD D).dead = false) := by
  obtain ⟨h1, h2, h3, h4⟩ := h
  unfold pwD pwE
  by_cases hd : D.dead = true
  · rw [if_pos hd, if_pos hd]
    exact ⟨⟨h1, h2, h3, h4⟩, hi, by simp [hd]⟩
  · rw [if_neg hd, if_neg hd]
    have hd' : D.dead = false := by cases e : D.dead; rfl; exact absurd e hd
    by_cases hf : D.fuse = 0
    · rw [if_pos hf, if_pos hf]
      exact ⟨⟨h1, h2, by simp, by simp⟩, fun _ => rfl, by simp⟩
    · rw [if_neg hf, if_neg hf]
      split
      · exact ⟨⟨h1, h2, by simp only; omega, by simp only; omega⟩, fun h => absurd h (by simp [hd']), by simp [hd']⟩
      · exact ⟨⟨h1, h2, h3, h4⟩, hi, by simp [hd']⟩
section
variable {w : World} {r : Nat} {D : Dsk}
theorem pw5 {D : Dsk} (h : pwE D ≠ 0) : pwE D = 5 := by
  unfold pwE at *
  split
  · rfl
  · rename_i h1; rw [if_neg h1] at h
    split
    · rfl
    · rename_i h2; rw [if_neg h2] at h; exact absurd rfl h
end
end Go.Proofs
