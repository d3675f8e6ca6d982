/- The record whose bytes those are: the reference. -/
import Derived.Test.YtmhjjhpgbafjpaaRcEtop
set_option linter.unusedVariables false
namespace Go.Proofs
open Go Go.Eng
section
variable {w0 w : World} {rd xb t2 : Nat} {xs : Bs} {s : Rs} {x : Rc}
end
end Go.Proofs
