/-
  No cell of these rows narrows 'for every input' (looked for: loops, veiled, ifaces, maps, wideKeys, modest, calm, conditions, laid).
  DERIVED. THE GIVEN ROWS OF THIS SEAT. 8 by the template 'for every input the law returns true; each argument reads behind the call as it read before'; 0 by the template 'total and deterministic' (their statements: YtkchikcbikkgeaaTotals.lean).
  GIVEN WITH THE SEED: the statements are not yours to turn. If you find one false, say at which input.
  Laid BY PROGRAM, IN A SANDBOX (cutbox-rows.mjs): the forced cells as the released guide's own fill.sh prints them over the translation 4a3f1955a1b16600… (all of the seat's roots in one cut). By AI agents, Wed Nov 11 2026. No macro, syntax, notation, axiom, sorry.
-/
import Derived.Test.YtkchikcbikkgeaaChecked
import GoSem.Claim
import GoSem.ClaimJoined
import GoSem.ClaimMapViews
import Derived.JoinedTies
import Derived.KernelRfl
namespace Go.Proofs.Ytkchikcbikkgeaa
/- THE CELL 'sum', in the pinned program and in every row, IS THE sha256 OF THE DUMP (.gsa) THAT YtkchikcbikkgeaaProg.lean LOADS. Nothing in Lean hashes anything: it is a label: what it is worth is what the hold of that sum in a sandbox is worth. -/
noncomputable def Try.pinned : Pinned := { name := "ytkchikcbikkgeaa", sum := "4a3f1955a1b16600ec6f6482865dfef323294e5fe4b06ebcd2c784bb7d980bb7", checked := Try.checked }
namespace Rows
def none {H : Type} : Left H := { results := [], args := [] }

/-- 'carfaxlaw02.CheckSums': WHATEVER THE INPUT: true; the input reads as it did. -/
def checkSumsSpec : ChangeSpec := { name := "checkSums", fn := fun _ => fun
  | [d] => { results := [.lit (.bool true)], args := [d] }
  | _ => none }
def checkSumsRow : OpenClaim := { program := "ytkchikcbikkgeaa", sum := "4a3f1955a1b16600ec6f6482865dfef323294e5fe4b06ebcd2c784bb7d980bb7", func := "carfax/carfaxlaw02.CheckSums", spec := "checkSums", unfollowed := true, recurses := true, apart := false }
def CheckSumsSaid : Prop := checkSumsRow.holds Try.pinned (OpenSpec.ofChange checkSumsSpec)

/-- ITS FALSE NEIGHBOUR: 'it returns false'. Refute it at one input. -/
def checkSumsWrong : ChangeSpec := { name := "checkSums", fn := fun _ => fun
  | [d] => { results := [.lit (.bool false)], args := [d] }
  | _ => none }
def CheckSumsWrongFalsely : Prop := checkSumsRow.holds Try.pinned (OpenSpec.ofChange checkSumsWrong)

/-- 'carfaxlaw02.CheckScans': WHATEVER THE INPUT: true; the input reads as it did. -/
def checkScansSpec : ChangeSpec := { name := "checkScans", fn := fun _ => fun
  | [d] => { results := [.lit (.bool true)], args := [d] }
  | _ => none }
def checkScansRow : OpenClaim := { program := "ytkchikcbikkgeaa", sum := "4a3f1955a1b16600ec6f6482865dfef323294e5fe4b06ebcd2c784bb7d980bb7", func := "carfax/carfaxlaw02.CheckScans", spec := "checkScans", unfollowed := true, recurses := true, apart := false }
def CheckScansSaid : Prop := checkScansRow.holds Try.pinned (OpenSpec.ofChange checkScansSpec)

/-- ITS FALSE NEIGHBOUR: 'it returns false'. Refute it at one input. -/
def checkScansWrong : ChangeSpec := { name := "checkScans", fn := fun _ => fun
  | [d] => { results := [.lit (.bool false)], args := [d] }
  | _ => none }
def CheckScansWrongFalsely : Prop := checkScansRow.holds Try.pinned (OpenSpec.ofChange checkScansWrong)

/-- 'carfaxlaw02.CheckList': WHATEVER THE INPUT: true; the input reads as it did. -/
def checkListSpec : ChangeSpec := { name := "checkList", fn := fun _ => fun
  | [d1, d2] => { results := [.lit (.bool true)], args := [d1, d2] }
  | _ => none }
def checkListRow : OpenClaim := { program := "ytkchikcbikkgeaa", sum := "4a3f1955a1b16600ec6f6482865dfef323294e5fe4b06ebcd2c784bb7d980bb7", func := "carfax/carfaxlaw02.CheckList", spec := "checkList", unfollowed := true, recurses := true, apart := false }
def CheckListSaid : Prop := checkListRow.holds Try.pinned (OpenSpec.ofChange checkListSpec)

/-- ITS FALSE NEIGHBOUR: 'it returns false'. Refute it at one input. -/
def checkListWrong : ChangeSpec := { name := "checkList", fn := fun _ => fun
  | [d1, d2] => { results := [.lit (.bool false)], args := [d1, d2] }
  | _ => none }
def CheckListWrongFalsely : Prop := checkListRow.holds Try.pinned (OpenSpec.ofChange checkListWrong)

/-- 'carfaxlaw02.CheckThree': WHATEVER THE INPUT: true; the input reads as it did. -/
def checkThreeSpec : ChangeSpec := { name := "checkThree", fn := fun _ => fun
  | [d1, d2, d3] => { results := [.lit (.bool true)], args := [d1, d2, d3] }
  | _ => none }
def checkThreeRow : OpenClaim := { program := "ytkchikcbikkgeaa", sum := "4a3f1955a1b16600ec6f6482865dfef323294e5fe4b06ebcd2c784bb7d980bb7", func := "carfax/carfaxlaw02.CheckThree", spec := "checkThree", unfollowed := true, recurses := true, apart := false }
def CheckThreeSaid : Prop := checkThreeRow.holds Try.pinned (OpenSpec.ofChange checkThreeSpec)

/-- ITS FALSE NEIGHBOUR: 'it returns false'. Refute it at one input. -/
def checkThreeWrong : ChangeSpec := { name := "checkThree", fn := fun _ => fun
  | [d1, d2, d3] => { results := [.lit (.bool false)], args := [d1, d2, d3] }
  | _ => none }
def CheckThreeWrongFalsely : Prop := checkThreeRow.holds Try.pinned (OpenSpec.ofChange checkThreeWrong)

/-- 'carfaxlaw02.CheckBehind': WHATEVER THE INPUT: true; the input reads as it did. -/
def checkBehindSpec : ChangeSpec := { name := "checkBehind", fn := fun _ => fun
  | [d1, d2] => { results := [.lit (.bool true)], args := [d1, d2] }
  | _ => none }
def checkBehindRow : OpenClaim := { program := "ytkchikcbikkgeaa", sum := "4a3f1955a1b16600ec6f6482865dfef323294e5fe4b06ebcd2c784bb7d980bb7", func := "carfax/carfaxlaw02.CheckBehind", spec := "checkBehind", unfollowed := true, recurses := true, apart := false }
def CheckBehindSaid : Prop := checkBehindRow.holds Try.pinned (OpenSpec.ofChange checkBehindSpec)

/-- ITS FALSE NEIGHBOUR: 'it returns false'. Refute it at one input. -/
def checkBehindWrong : ChangeSpec := { name := "checkBehind", fn := fun _ => fun
  | [d1, d2] => { results := [.lit (.bool false)], args := [d1, d2] }
  | _ => none }
def CheckBehindWrongFalsely : Prop := checkBehindRow.holds Try.pinned (OpenSpec.ofChange checkBehindWrong)

/-- 'carfaxlaw02.CheckFrames': WHATEVER THE INPUT: true; the input reads as it did. -/
def checkFramesSpec : ChangeSpec := { name := "checkFrames", fn := fun _ => fun
  | [d] => { results := [.lit (.bool true)], args := [d] }
  | _ => none }
def checkFramesRow : OpenClaim := { program := "ytkchikcbikkgeaa", sum := "4a3f1955a1b16600ec6f6482865dfef323294e5fe4b06ebcd2c784bb7d980bb7", func := "carfax/carfaxlaw02.CheckFrames", spec := "checkFrames", unfollowed := true, recurses := true, apart := false }
def CheckFramesSaid : Prop := checkFramesRow.holds Try.pinned (OpenSpec.ofChange checkFramesSpec)

/-- ITS FALSE NEIGHBOUR: 'it returns false'. Refute it at one input. -/
def checkFramesWrong : ChangeSpec := { name := "checkFrames", fn := fun _ => fun
  | [d] => { results := [.lit (.bool false)], args := [d] }
  | _ => none }
def CheckFramesWrongFalsely : Prop := checkFramesRow.holds Try.pinned (OpenSpec.ofChange checkFramesWrong)

/-- 'carfaxlaw02.CheckBack': WHATEVER THE INPUT: true; the input reads as it did. -/
def checkBackSpec : ChangeSpec := { name := "checkBack", fn := fun _ => fun
  | [d1, d2, d3] => { results := [.lit (.bool true)], args := [d1, d2, d3] }
  | _ => none }
def checkBackRow : OpenClaim := { program := "ytkchikcbikkgeaa", sum := "4a3f1955a1b16600ec6f6482865dfef323294e5fe4b06ebcd2c784bb7d980bb7", func := "carfax/carfaxlaw02.CheckBack", spec := "checkBack", unfollowed := true, recurses := true, apart := false }
def CheckBackSaid : Prop := checkBackRow.holds Try.pinned (OpenSpec.ofChange checkBackSpec)

/-- ITS FALSE NEIGHBOUR: 'it returns false'. Refute it at one input. -/
def checkBackWrong : ChangeSpec := { name := "checkBack", fn := fun _ => fun
  | [d1, d2, d3] => { results := [.lit (.bool false)], args := [d1, d2, d3] }
  | _ => none }
def CheckBackWrongFalsely : Prop := checkBackRow.holds Try.pinned (OpenSpec.ofChange checkBackWrong)

/-- 'carfaxlaw02.CheckTells': WHATEVER THE INPUT: true; the input reads as it did. -/
def checkTellsSpec : ChangeSpec := { name := "checkTells", fn := fun _ => fun
  | [d1, d2, d3] => { results := [.lit (.bool true)], args := [d1, d2, d3] }
  | _ => none }
def checkTellsRow : OpenClaim := { program := "ytkchikcbikkgeaa", sum := "4a3f1955a1b16600ec6f6482865dfef323294e5fe4b06ebcd2c784bb7d980bb7", func := "carfax/carfaxlaw02.CheckTells", spec := "checkTells", unfollowed := true, recurses := true, apart := false }
def CheckTellsSaid : Prop := checkTellsRow.holds Try.pinned (OpenSpec.ofChange checkTellsSpec)

/-- ITS FALSE NEIGHBOUR: 'it returns false'. Refute it at one input. -/
def checkTellsWrong : ChangeSpec := { name := "checkTells", fn := fun _ => fun
  | [d1, d2, d3] => { results := [.lit (.bool false)], args := [d1, d2, d3] }
  | _ => none }
def CheckTellsWrongFalsely : Prop := checkTellsRow.holds Try.pinned (OpenSpec.ofChange checkTellsWrong)

/- THE SECOND FORM. 'bulk': how many values and letters a reading holds, each counted each time it is reached (what is shared counts as often as it is met; a slice's spare places count too). A statement '..UptoSaid' is the law's where the arguments, and the package variables that the reading takes, are together of bulk at most 1048576: NARROWER than '..Said'. Prove '..Said' where nothing that the law and all that it calls make is longer than what came in: it says more and counts as full. Else prove '..UptoSaid'. A law counts once. -/
mutual
def uptoBulk {H : Type} : DataW H → Nat
  | .lit (.string bytes) => bytes.length + 1
  | .lit _ => 1
  | .nil => 1
  | .ptr d => uptoBulk d + 1
  | .slice elems spare => uptoBulkAll elems + uptoBulkAll spare + 1
  | .agg parts => uptoBulkAll parts + 1
  | .iface _ d => uptoBulk d + 1
  | .map entries => uptoBulkEntries entries + 1
  | .held _ => 1
def uptoBulkAll {H : Type} : List (DataW H) → Nat
  | [] => 0
  | d :: r => uptoBulk d + uptoBulkAll r
def uptoBulkEntries {H : Type} : List (Lit × DataW H) → Nat
  | [] => 0
  | x :: r => uptoBulkEntry x + uptoBulkEntries r
def uptoBulkEntry {H : Type} : Lit × DataW H → Nat
  | (.string bytes, d) => bytes.length + uptoBulk d + 1
  | (_, d) => uptoBulk d + 1
 end
def uptoSmall : (H : Type) → List (DataW H) → Bool := fun _ ds => decide (uptoBulkAll ds ≤ 1048576)
def OpenSpec.upto (s : _root_.Go.ChangeSpec) : _root_.Go.OpenSpec := { _root_.Go.OpenSpec.ofChange s with cond := some uptoSmall }

/-- 'carfaxlaw02.CheckSums', WHERE WHAT IT READS IS OF BULK AT MOST 1048576: true; the input reads as it did. -/
def checkSumsUptoRow : OpenClaim := { program := "ytkchikcbikkgeaa", sum := "4a3f1955a1b16600ec6f6482865dfef323294e5fe4b06ebcd2c784bb7d980bb7", func := "carfax/carfaxlaw02.CheckSums", spec := "checkSums", unfollowed := true, recurses := true, apart := false, narrowed := true }
def CheckSumsUptoSaid : Prop := checkSumsUptoRow.holds Try.pinned (OpenSpec.upto checkSumsSpec)

/-- 'carfaxlaw02.CheckScans', WHERE WHAT IT READS IS OF BULK AT MOST 1048576: true; the input reads as it did. -/
def checkScansUptoRow : OpenClaim := { program := "ytkchikcbikkgeaa", sum := "4a3f1955a1b16600ec6f6482865dfef323294e5fe4b06ebcd2c784bb7d980bb7", func := "carfax/carfaxlaw02.CheckScans", spec := "checkScans", unfollowed := true, recurses := true, apart := false, narrowed := true }
def CheckScansUptoSaid : Prop := checkScansUptoRow.holds Try.pinned (OpenSpec.upto checkScansSpec)

/-- 'carfaxlaw02.CheckList', WHERE WHAT IT READS IS OF BULK AT MOST 1048576: true; the input reads as it did. -/
def checkListUptoRow : OpenClaim := { program := "ytkchikcbikkgeaa", sum := "4a3f1955a1b16600ec6f6482865dfef323294e5fe4b06ebcd2c784bb7d980bb7", func := "carfax/carfaxlaw02.CheckList", spec := "checkList", unfollowed := true, recurses := true, apart := false, narrowed := true }
def CheckListUptoSaid : Prop := checkListUptoRow.holds Try.pinned (OpenSpec.upto checkListSpec)

/-- 'carfaxlaw02.CheckThree', WHERE WHAT IT READS IS OF BULK AT MOST 1048576: true; the input reads as it did. -/
def checkThreeUptoRow : OpenClaim := { program := "ytkchikcbikkgeaa", sum := "4a3f1955a1b16600ec6f6482865dfef323294e5fe4b06ebcd2c784bb7d980bb7", func := "carfax/carfaxlaw02.CheckThree", spec := "checkThree", unfollowed := true, recurses := true, apart := false, narrowed := true }
def CheckThreeUptoSaid : Prop := checkThreeUptoRow.holds Try.pinned (OpenSpec.upto checkThreeSpec)

/-- 'carfaxlaw02.CheckBehind', WHERE WHAT IT READS IS OF BULK AT MOST 1048576: true; the input reads as it did. -/
def checkBehindUptoRow : OpenClaim := { program := "ytkchikcbikkgeaa", sum := "4a3f1955a1b16600ec6f6482865dfef323294e5fe4b06ebcd2c784bb7d980bb7", func := "carfax/carfaxlaw02.CheckBehind", spec := "checkBehind", unfollowed := true, recurses := true, apart := false, narrowed := true }
def CheckBehindUptoSaid : Prop := checkBehindUptoRow.holds Try.pinned (OpenSpec.upto checkBehindSpec)

/-- 'carfaxlaw02.CheckFrames', WHERE WHAT IT READS IS OF BULK AT MOST 1048576: true; the input reads as it did. -/
def checkFramesUptoRow : OpenClaim := { program := "ytkchikcbikkgeaa", sum := "4a3f1955a1b16600ec6f6482865dfef323294e5fe4b06ebcd2c784bb7d980bb7", func := "carfax/carfaxlaw02.CheckFrames", spec := "checkFrames", unfollowed := true, recurses := true, apart := false, narrowed := true }
def CheckFramesUptoSaid : Prop := checkFramesUptoRow.holds Try.pinned (OpenSpec.upto checkFramesSpec)

/-- 'carfaxlaw02.CheckBack', WHERE WHAT IT READS IS OF BULK AT MOST 1048576: true; the input reads as it did. -/
def checkBackUptoRow : OpenClaim := { program := "ytkchikcbikkgeaa", sum := "4a3f1955a1b16600ec6f6482865dfef323294e5fe4b06ebcd2c784bb7d980bb7", func := "carfax/carfaxlaw02.CheckBack", spec := "checkBack", unfollowed := true, recurses := true, apart := false, narrowed := true }
def CheckBackUptoSaid : Prop := checkBackUptoRow.holds Try.pinned (OpenSpec.upto checkBackSpec)

/-- 'carfaxlaw02.CheckTells', WHERE WHAT IT READS IS OF BULK AT MOST 1048576: true; the input reads as it did. -/
def checkTellsUptoRow : OpenClaim := { program := "ytkchikcbikkgeaa", sum := "4a3f1955a1b16600ec6f6482865dfef323294e5fe4b06ebcd2c784bb7d980bb7", func := "carfax/carfaxlaw02.CheckTells", spec := "checkTells", unfollowed := true, recurses := true, apart := false, narrowed := true }
def CheckTellsUptoSaid : Prop := checkTellsUptoRow.holds Try.pinned (OpenSpec.upto checkTellsSpec)

end Rows
end Go.Proofs.Ytkchikcbikkgeaa
