/- Floors: the floor that is tried. -/
import Derived.Test.YtmhjjhpgbafjpaaDoorPaDfree
set_option linter.unusedVariables false
set_option maxRecDepth 100000
namespace Go.Proofs
open Go Go.Eng
abbrev dflt : ByteArray := ⟨#[48, 97, 97, 98, 49, 10, 35, 99, 35, 100, 35, 10, 50, 101, 101, 102, 102, 10]⟩
theorem dflt_rows : rowsF dflt = [⟨#[48, 97, 97, 98, 49]⟩, ⟨#[35, 99, 35, 100, 35]⟩, ⟨#[50, 101, 101, 102, 102]⟩] := by decide +kernel
def dfl : Fl := ⟨5, 3, ⟨#[48, 97, 97, 98, 49, 35, 99, 35, 100, 35, 50, 101, 101, 102, 102]⟩⟩
theorem dflt_mays : mays (rowsF dflt) = true := by rw [dflt_rows]; decide +kernel
theorem dflt_fl : flOf (rowsF dflt) = dfl := by rw [dflt_rows]; rfl
theorem dfl_right : rightF dfl = true := by decide +kernel
theorem dflt_ok : parseV dflt = (dfl, 0) := by
  unfold parseV
  rw [if_pos ⟨dflt_mays, by rw [dflt_rows]; simp, by rw [dflt_fl]; exact dfl_right⟩, dflt_fl]
end Go.Proofs
