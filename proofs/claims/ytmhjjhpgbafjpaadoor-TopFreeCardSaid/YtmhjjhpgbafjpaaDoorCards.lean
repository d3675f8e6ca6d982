/-
  DERIVED. GIVEN WITH THE SEED: THE CARDS: each row of YtmhjjhpgbafjpaaDoorRows.lean that lists a variable, with what it lists TIED to the program's text (the seventh form; the later family's looks); each row that meets fmt, with fmt's text TOLD by the authors' own Lean function (tested against real Go, not proved from fmt's source: count such statements apart). THE CARD IS WHAT COUNTS. Prove the row's statement (the work); the ties are given (YtmhjjhpgbafjpaaDoorTie.lean); close each card by the builder's one call (the guide's Derived/Test/ToyasCard.lean, 'card_holds'). Laid BY PROGRAM, IN A SANDBOX (cutbox-door.mjs). By AI agents, Wed Nov 11 2026. No macro, syntax, notation, axiom, sorry.
-/
import Derived.Test.YtmhjjhpgbafjpaaDoorRows
import GoSem.ClaimSeven
namespace Go.Proofs.YtmhjjhpgbafjpaaDoor
namespace Rows

/-- THE TIED CARD OF 'carfaxtop.TopFree'. -/
def topFreeCard : Claim7 := { stood := { row := topFreeRow, standIns := [], harness := (true, "681f3928522c9951244f57bbd28e02629d850c247606a3c03d3a2be91b9950cd"), looks := false }, kinds := [], alts := [], laidByText := true, laidKinds := [.data, .pinned], laidTests := true, laidLooks := .later }
def TopFreeCardSaid : Prop := Claim7.holds Tryd.pinned (.plain (OpenSpec.ofChange topFreeSpec)) topFreeCard

/-- THE SECOND FORM's CARD OF 'carfaxtop.TopFree'. -/
def topFreeUptoCard : Claim7 := { stood := { row := topFreeUptoRow, standIns := [], harness := (true, "681f3928522c9951244f57bbd28e02629d850c247606a3c03d3a2be91b9950cd"), looks := false }, kinds := [], alts := [], laidByText := true, laidKinds := [.data, .pinned], laidTests := true, laidLooks := .later }
def TopFreeUptoCardSaid : Prop := Claim7.holds Tryd.pinned (.plain (OpenSpec.upto topFreeSpec)) topFreeUptoCard
end Rows
end Go.Proofs.YtmhjjhpgbafjpaaDoor
