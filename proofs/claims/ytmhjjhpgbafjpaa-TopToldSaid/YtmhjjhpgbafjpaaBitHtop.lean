/- The reference's reader: counts, the end, and the reader of bytes. -/
import Derived.Test.YtmhjjhpgbafjpaaBitGtop
set_option linter.unusedVariables false
namespace Go.Proofs
open Go Go.Eng
end Go.Proofs
