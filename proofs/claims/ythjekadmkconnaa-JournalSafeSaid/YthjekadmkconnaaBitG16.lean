/- Counts and the end, of the program's reader; the reference's reader. -/
import Derived.Test.YthjekadmkconnaaBitF16
set_option linter.unusedVariables false
namespace Go.Proofs
open Go Go.Eng
theorem vl_pos {l : List Bool} {i : Nat} (h : l[i]? = some true) (k : Nat) : 1 ≤ vl ((l.drop i).take (k + 1)) := by
  have hi := (List.getElem?_eq_some_iff.1 h).1
  rw [List.drop_eq_getElem_cons hi, (List.getElem?_eq_some_iff.1 h).2, List.take_succ_cons, vl_cons]
  have := Nat.two_pow_pos ((l.drop (i + 1)).take k).length
  simp only [Bool.toNat_true]; omega
section
variable {w : World} {ok : Nat → Prop} {b : Nat} {xs : List UInt8} {i : Nat} {E : Int}
end
end Go.Proofs
