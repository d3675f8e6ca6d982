/-
  No cell of these rows narrows 'for every input' (looked for: loops, veiled, ifaces, maps, wideKeys, modest, calm, conditions, laid).
  DERIVED. THE GIVEN ROWS OF THIS SEAT. 6 by the template 'for every input the law returns true; each argument reads behind the call as it read before'; 0 by the template 'total and deterministic' (their statements: YtbncolgoejcfcaaTotals.lean).
  GIVEN WITH THE SEED: the statements are not yours to turn. If you find one false, say at which input.
  Laid BY PROGRAM, IN A SANDBOX (cutbox-rows.mjs): the forced cells as the released guide's own fill.sh prints them over the translation d6afcf9cfa39e7b9… (all of the seat's roots in one cut). By AI agents, Wed Nov 11 2026. No macro, syntax, notation, axiom, sorry.
-/
import Derived.Test.YtbncolgoejcfcaaChecked
import GoSem.Claim
import GoSem.ClaimJoined
import GoSem.ClaimMapViews
import Derived.JoinedTies
import Derived.KernelRfl
namespace Go.Proofs.Ytbncolgoejcfcaa
/- THE CELL 'sum', in the pinned program and in every row, IS THE sha256 OF THE DUMP (.gsa) THAT YtbncolgoejcfcaaProg.lean LOADS. Nothing in Lean hashes anything: it is a label: what it is worth is what the hold of that sum in a sandbox is worth. -/
noncomputable def Try.pinned : Pinned := { name := "ytbncolgoejcfcaa", sum := "d6afcf9cfa39e7b9b04e5c614b618ed5f44b9fa11bd253abb7b63b7a457a570b", checked := Try.checked }
namespace Rows
def none {H : Type} : Left H := { results := [], args := [] }

/-- 'carfaxlaw17.RecordLays': WHATEVER THE INPUT: true; the input reads as it did. -/
def recordLaysSpec : ChangeSpec := { name := "recordLays", fn := fun _ => fun
  | [d] => { results := [.lit (.bool true)], args := [d] }
  | _ => none }
def recordLaysRow : OpenClaim := { program := "ytbncolgoejcfcaa", sum := "d6afcf9cfa39e7b9b04e5c614b618ed5f44b9fa11bd253abb7b63b7a457a570b", func := "carfax/carfaxlaw17.RecordLays", spec := "recordLays", unfollowed := true, recurses := true, apart := false }
def RecordLaysSaid : Prop := recordLaysRow.holds Try.pinned (OpenSpec.ofChange recordLaysSpec)

/-- ITS FALSE NEIGHBOUR: 'it returns false'. Refute it at one input. -/
def recordLaysWrong : ChangeSpec := { name := "recordLays", fn := fun _ => fun
  | [d] => { results := [.lit (.bool false)], args := [d] }
  | _ => none }
def RecordLaysWrongFalsely : Prop := recordLaysRow.holds Try.pinned (OpenSpec.ofChange recordLaysWrong)

/-- 'carfaxlaw17.RecordLong': WHATEVER THE INPUT: true; the input reads as it did. -/
def recordLongSpec : ChangeSpec := { name := "recordLong", fn := fun _ => fun
  | [d] => { results := [.lit (.bool true)], args := [d] }
  | _ => none }
def recordLongRow : OpenClaim := { program := "ytbncolgoejcfcaa", sum := "d6afcf9cfa39e7b9b04e5c614b618ed5f44b9fa11bd253abb7b63b7a457a570b", func := "carfax/carfaxlaw17.RecordLong", spec := "recordLong", unfollowed := true, recurses := true, apart := false }
def RecordLongSaid : Prop := recordLongRow.holds Try.pinned (OpenSpec.ofChange recordLongSpec)

/-- ITS FALSE NEIGHBOUR: 'it returns false'. Refute it at one input. -/
def recordLongWrong : ChangeSpec := { name := "recordLong", fn := fun _ => fun
  | [d] => { results := [.lit (.bool false)], args := [d] }
  | _ => none }
def RecordLongWrongFalsely : Prop := recordLongRow.holds Try.pinned (OpenSpec.ofChange recordLongWrong)

/-- 'carfaxlaw17.RecordActs': WHATEVER THE INPUT: true; the input reads as it did. -/
def recordActsSpec : ChangeSpec := { name := "recordActs", fn := fun _ => fun
  | [d] => { results := [.lit (.bool true)], args := [d] }
  | _ => none }
def recordActsRow : OpenClaim := { program := "ytbncolgoejcfcaa", sum := "d6afcf9cfa39e7b9b04e5c614b618ed5f44b9fa11bd253abb7b63b7a457a570b", func := "carfax/carfaxlaw17.RecordActs", spec := "recordActs", unfollowed := true, recurses := true, apart := false }
def RecordActsSaid : Prop := recordActsRow.holds Try.pinned (OpenSpec.ofChange recordActsSpec)

/-- ITS FALSE NEIGHBOUR: 'it returns false'. Refute it at one input. -/
def recordActsWrong : ChangeSpec := { name := "recordActs", fn := fun _ => fun
  | [d] => { results := [.lit (.bool false)], args := [d] }
  | _ => none }
def RecordActsWrongFalsely : Prop := recordActsRow.holds Try.pinned (OpenSpec.ofChange recordActsWrong)

/-- 'carfaxlaw17.RecordBack': WHATEVER THE INPUT: true; the input reads as it did. -/
def recordBackSpec : ChangeSpec := { name := "recordBack", fn := fun _ => fun
  | [d1, d2] => { results := [.lit (.bool true)], args := [d1, d2] }
  | _ => none }
def recordBackRow : OpenClaim := { program := "ytbncolgoejcfcaa", sum := "d6afcf9cfa39e7b9b04e5c614b618ed5f44b9fa11bd253abb7b63b7a457a570b", func := "carfax/carfaxlaw17.RecordBack", spec := "recordBack", unfollowed := true, recurses := true, apart := false }
def RecordBackSaid : Prop := recordBackRow.holds Try.pinned (OpenSpec.ofChange recordBackSpec)

/-- ITS FALSE NEIGHBOUR: 'it returns false'. Refute it at one input. -/
def recordBackWrong : ChangeSpec := { name := "recordBack", fn := fun _ => fun
  | [d1, d2] => { results := [.lit (.bool false)], args := [d1, d2] }
  | _ => none }
def RecordBackWrongFalsely : Prop := recordBackRow.holds Try.pinned (OpenSpec.ofChange recordBackWrong)

/-- 'carfaxlaw17.RecordCut': WHATEVER THE INPUT: true; the input reads as it did. -/
def recordCutSpec : ChangeSpec := { name := "recordCut", fn := fun _ => fun
  | [d1, d2, d3] => { results := [.lit (.bool true)], args := [d1, d2, d3] }
  | _ => none }
def recordCutRow : OpenClaim := { program := "ytbncolgoejcfcaa", sum := "d6afcf9cfa39e7b9b04e5c614b618ed5f44b9fa11bd253abb7b63b7a457a570b", func := "carfax/carfaxlaw17.RecordCut", spec := "recordCut", unfollowed := true, recurses := true, apart := false }
def RecordCutSaid : Prop := recordCutRow.holds Try.pinned (OpenSpec.ofChange recordCutSpec)

/-- ITS FALSE NEIGHBOUR: 'it returns false'. Refute it at one input. -/
def recordCutWrong : ChangeSpec := { name := "recordCut", fn := fun _ => fun
  | [d1, d2, d3] => { results := [.lit (.bool false)], args := [d1, d2, d3] }
  | _ => none }
def RecordCutWrongFalsely : Prop := recordCutRow.holds Try.pinned (OpenSpec.ofChange recordCutWrong)

/-- 'carfaxlaw17.RecordTakes': WHATEVER THE INPUT: true; the input reads as it did. -/
def recordTakesSpec : ChangeSpec := { name := "recordTakes", fn := fun _ => fun
  | [d] => { results := [.lit (.bool true)], args := [d] }
  | _ => none }
def recordTakesRow : OpenClaim := { program := "ytbncolgoejcfcaa", sum := "d6afcf9cfa39e7b9b04e5c614b618ed5f44b9fa11bd253abb7b63b7a457a570b", func := "carfax/carfaxlaw17.RecordTakes", spec := "recordTakes", unfollowed := true, recurses := true, apart := false }
def RecordTakesSaid : Prop := recordTakesRow.holds Try.pinned (OpenSpec.ofChange recordTakesSpec)

/-- ITS FALSE NEIGHBOUR: 'it returns false'. Refute it at one input. -/
def recordTakesWrong : ChangeSpec := { name := "recordTakes", fn := fun _ => fun
  | [d] => { results := [.lit (.bool false)], args := [d] }
  | _ => none }
def RecordTakesWrongFalsely : Prop := recordTakesRow.holds Try.pinned (OpenSpec.ofChange recordTakesWrong)

/- THE SECOND FORM. 'bulk': how many values and letters a reading holds, each counted each time it is reached (what is shared counts as often as it is met; a slice's spare places count too). A statement '..UptoSaid' is the law's where the arguments, and the package variables that the reading takes, are together of bulk at most 1048576: NARROWER than '..Said'. Prove '..Said' where nothing that the law and all that it calls make is longer than what came in: it says more and counts as full. Else prove '..UptoSaid'. A law counts once. -/
mutual
def uptoBulk {H : Type} : DataW H → Nat
  | .lit (.string bytes) => bytes.length + 1
  | .lit _ => 1
  | .nil => 1
  | .ptr d => uptoBulk d + 1
  | .slice elems spare => uptoBulkAll elems + uptoBulkAll spare + 1
  | .agg parts => uptoBulkAll parts + 1
  | .iface _ d => uptoBulk d + 1
  | .map entries => uptoBulkEntries entries + 1
  | .held _ => 1
def uptoBulkAll {H : Type} : List (DataW H) → Nat
  | [] => 0
  | d :: r => uptoBulk d + uptoBulkAll r
def uptoBulkEntries {H : Type} : List (Lit × DataW H) → Nat
  | [] => 0
  | x :: r => uptoBulkEntry x + uptoBulkEntries r
def uptoBulkEntry {H : Type} : Lit × DataW H → Nat
  | (.string bytes, d) => bytes.length + uptoBulk d + 1
  | (_, d) => uptoBulk d + 1
 end
def uptoSmall : (H : Type) → List (DataW H) → Bool := fun _ ds => decide (uptoBulkAll ds ≤ 1048576)
def OpenSpec.upto (s : _root_.Go.ChangeSpec) : _root_.Go.OpenSpec := { _root_.Go.OpenSpec.ofChange s with cond := some uptoSmall }

/-- 'carfaxlaw17.RecordLays', WHERE WHAT IT READS IS OF BULK AT MOST 1048576: true; the input reads as it did. -/
def recordLaysUptoRow : OpenClaim := { program := "ytbncolgoejcfcaa", sum := "d6afcf9cfa39e7b9b04e5c614b618ed5f44b9fa11bd253abb7b63b7a457a570b", func := "carfax/carfaxlaw17.RecordLays", spec := "recordLays", unfollowed := true, recurses := true, apart := false, narrowed := true }
def RecordLaysUptoSaid : Prop := recordLaysUptoRow.holds Try.pinned (OpenSpec.upto recordLaysSpec)

/-- 'carfaxlaw17.RecordLong', WHERE WHAT IT READS IS OF BULK AT MOST 1048576: true; the input reads as it did. -/
def recordLongUptoRow : OpenClaim := { program := "ytbncolgoejcfcaa", sum := "d6afcf9cfa39e7b9b04e5c614b618ed5f44b9fa11bd253abb7b63b7a457a570b", func := "carfax/carfaxlaw17.RecordLong", spec := "recordLong", unfollowed := true, recurses := true, apart := false, narrowed := true }
def RecordLongUptoSaid : Prop := recordLongUptoRow.holds Try.pinned (OpenSpec.upto recordLongSpec)

/-- 'carfaxlaw17.RecordActs', WHERE WHAT IT READS IS OF BULK AT MOST 1048576: true; the input reads as it did. -/
def recordActsUptoRow : OpenClaim := { program := "ytbncolgoejcfcaa", sum := "d6afcf9cfa39e7b9b04e5c614b618ed5f44b9fa11bd253abb7b63b7a457a570b", func := "carfax/carfaxlaw17.RecordActs", spec := "recordActs", unfollowed := true, recurses := true, apart := false, narrowed := true }
def RecordActsUptoSaid : Prop := recordActsUptoRow.holds Try.pinned (OpenSpec.upto recordActsSpec)

/-- 'carfaxlaw17.RecordBack', WHERE WHAT IT READS IS OF BULK AT MOST 1048576: true; the input reads as it did. -/
def recordBackUptoRow : OpenClaim := { program := "ytbncolgoejcfcaa", sum := "d6afcf9cfa39e7b9b04e5c614b618ed5f44b9fa11bd253abb7b63b7a457a570b", func := "carfax/carfaxlaw17.RecordBack", spec := "recordBack", unfollowed := true, recurses := true, apart := false, narrowed := true }
def RecordBackUptoSaid : Prop := recordBackUptoRow.holds Try.pinned (OpenSpec.upto recordBackSpec)

/-- 'carfaxlaw17.RecordCut', WHERE WHAT IT READS IS OF BULK AT MOST 1048576: true; the input reads as it did. -/
def recordCutUptoRow : OpenClaim := { program := "ytbncolgoejcfcaa", sum := "d6afcf9cfa39e7b9b04e5c614b618ed5f44b9fa11bd253abb7b63b7a457a570b", func := "carfax/carfaxlaw17.RecordCut", spec := "recordCut", unfollowed := true, recurses := true, apart := false, narrowed := true }
def RecordCutUptoSaid : Prop := recordCutUptoRow.holds Try.pinned (OpenSpec.upto recordCutSpec)

/-- 'carfaxlaw17.RecordTakes', WHERE WHAT IT READS IS OF BULK AT MOST 1048576: true; the input reads as it did. -/
def recordTakesUptoRow : OpenClaim := { program := "ytbncolgoejcfcaa", sum := "d6afcf9cfa39e7b9b04e5c614b618ed5f44b9fa11bd253abb7b63b7a457a570b", func := "carfax/carfaxlaw17.RecordTakes", spec := "recordTakes", unfollowed := true, recurses := true, apart := false, narrowed := true }
def RecordTakesUptoSaid : Prop := recordTakesUptoRow.holds Try.pinned (OpenSpec.upto recordTakesSpec)

end Rows
end Go.Proofs.Ytbncolgoejcfcaa
