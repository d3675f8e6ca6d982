/- The laws of records. -/
import Derived.Test.YtmhjjhpgbafjpaaRcItop
set_option linter.unusedVariables false
namespace Go.Proofs
open Go Go.Eng
/-! ### How long -/
theorem cb_len2 (n : Nat) : (cb n).length = 2 * lg (n + 1) + 1 := by rw [cb_length]
theorem rb_len {x : Rc} (h : right x) : (rb x).length = if x.k = 1 then 20 else if x.k = 2 then 4 + 2 * lg (x.i.toNat + 1) else if x.k = 3 then 4 + 2 * lg (x.i.toNat + 1) + 3 else 6 := by
  obtain ⟨⟨k1, k2⟩, _⟩ := h
  unfold rb hasI hasR hasM
  simp only [List.length_append, nb_length]
  by_cases e1 : x.k = 1
  · simp [e1, nb_length]
  by_cases e2 : x.k = 2
  · simp [e2, nb_length, cb_len2]; omega
  by_cases e3 : x.k = 3
  · simp [e3, nb_length, cb_len2]; omega
  · rw [if_neg e1, if_neg e2, if_neg e3, if_neg (by simp; omega), if_pos (by simp; omega), if_neg (by simp; omega)]
    simp [nb_length]
theorem lg_half {m : Nat} (h : 1 < m) : lg m = lg (m / 2) + 1 := by
  unfold lg
  rw [Nat.log2_def, if_pos (by omega)]
theorem lg_one : lg 1 = 0 := by decide
end Go.Proofs
