/-
  No cell of these rows narrows 'for every input' (looked for: loops, veiled, ifaces, maps, wideKeys, modest, calm, conditions, laid).
  DERIVED. THE GIVEN ROWS OF THIS SEAT. 7 by the template 'for every input the law returns true; each argument reads behind the call as it read before'; 0 by the template 'total and deterministic' (their statements: YteakjgckampkbaaTotals.lean).
  GIVEN WITH THE SEED: the statements are not yours to turn. If you find one false, say at which input.
  Laid BY PROGRAM, IN A SANDBOX (cutbox-rows.mjs): the forced cells as the released guide's own fill.sh prints them over the translation 89d1950720489183… (all of the seat's roots in one cut). By AI agents, Wed Nov 11 2026. No macro, syntax, notation, axiom, sorry.
-/
import Derived.Test.YteakjgckampkbaaChecked
import GoSem.Claim
import GoSem.ClaimJoined
import GoSem.ClaimMapViews
import Derived.JoinedTies
import Derived.KernelRfl
namespace Go.Proofs.Yteakjgckampkbaa
/- THE CELL 'sum', in the pinned program and in every row, IS THE sha256 OF THE DUMP (.gsa) THAT YteakjgckampkbaaProg.lean LOADS. Nothing in Lean hashes anything: it is a label: what it is worth is what the hold of that sum in a sandbox is worth. -/
noncomputable def Try.pinned : Pinned := { name := "yteakjgckampkbaa", sum := "89d1950720489183215d84ae1649c109f69bc18c161b052a7ae49f23cff83716", checked := Try.checked }
namespace Rows
def none {H : Type} : Left H := { results := [], args := [] }

/-- 'carfaxlaw01.BitsLays': WHATEVER THE INPUT: true; the input reads as it did. -/
def bitsLaysSpec : ChangeSpec := { name := "bitsLays", fn := fun _ => fun
  | [d] => { results := [.lit (.bool true)], args := [d] }
  | _ => none }
def bitsLaysRow : OpenClaim := { program := "yteakjgckampkbaa", sum := "89d1950720489183215d84ae1649c109f69bc18c161b052a7ae49f23cff83716", func := "carfax/carfaxlaw01.BitsLays", spec := "bitsLays", unfollowed := true, recurses := true, apart := false }
def BitsLaysSaid : Prop := bitsLaysRow.holds Try.pinned (OpenSpec.ofChange bitsLaysSpec)

/-- ITS FALSE NEIGHBOUR: 'it returns false'. Refute it at one input. -/
def bitsLaysWrong : ChangeSpec := { name := "bitsLays", fn := fun _ => fun
  | [d] => { results := [.lit (.bool false)], args := [d] }
  | _ => none }
def BitsLaysWrongFalsely : Prop := bitsLaysRow.holds Try.pinned (OpenSpec.ofChange bitsLaysWrong)

/-- 'carfaxlaw01.BitsFull': WHATEVER THE INPUT: true; the input reads as it did. -/
def bitsFullSpec : ChangeSpec := { name := "bitsFull", fn := fun _ => fun
  | [d1, d2] => { results := [.lit (.bool true)], args := [d1, d2] }
  | _ => none }
def bitsFullRow : OpenClaim := { program := "yteakjgckampkbaa", sum := "89d1950720489183215d84ae1649c109f69bc18c161b052a7ae49f23cff83716", func := "carfax/carfaxlaw01.BitsFull", spec := "bitsFull", unfollowed := true, recurses := true, apart := false }
def BitsFullSaid : Prop := bitsFullRow.holds Try.pinned (OpenSpec.ofChange bitsFullSpec)

/-- ITS FALSE NEIGHBOUR: 'it returns false'. Refute it at one input. -/
def bitsFullWrong : ChangeSpec := { name := "bitsFull", fn := fun _ => fun
  | [d1, d2] => { results := [.lit (.bool false)], args := [d1, d2] }
  | _ => none }
def BitsFullWrongFalsely : Prop := bitsFullRow.holds Try.pinned (OpenSpec.ofChange bitsFullWrong)

/-- 'carfaxlaw01.BitsTakes': WHATEVER THE INPUT: true; the input reads as it did. -/
def bitsTakesSpec : ChangeSpec := { name := "bitsTakes", fn := fun _ => fun
  | [d1, d2] => { results := [.lit (.bool true)], args := [d1, d2] }
  | _ => none }
def bitsTakesRow : OpenClaim := { program := "yteakjgckampkbaa", sum := "89d1950720489183215d84ae1649c109f69bc18c161b052a7ae49f23cff83716", func := "carfax/carfaxlaw01.BitsTakes", spec := "bitsTakes", unfollowed := true, recurses := true, apart := false }
def BitsTakesSaid : Prop := bitsTakesRow.holds Try.pinned (OpenSpec.ofChange bitsTakesSpec)

/-- ITS FALSE NEIGHBOUR: 'it returns false'. Refute it at one input. -/
def bitsTakesWrong : ChangeSpec := { name := "bitsTakes", fn := fun _ => fun
  | [d1, d2] => { results := [.lit (.bool false)], args := [d1, d2] }
  | _ => none }
def BitsTakesWrongFalsely : Prop := bitsTakesRow.holds Try.pinned (OpenSpec.ofChange bitsTakesWrong)

/-- 'carfaxlaw01.BitsBack': WHATEVER THE INPUT: true; the input reads as it did. -/
def bitsBackSpec : ChangeSpec := { name := "bitsBack", fn := fun _ => fun
  | [d] => { results := [.lit (.bool true)], args := [d] }
  | _ => none }
def bitsBackRow : OpenClaim := { program := "yteakjgckampkbaa", sum := "89d1950720489183215d84ae1649c109f69bc18c161b052a7ae49f23cff83716", func := "carfax/carfaxlaw01.BitsBack", spec := "bitsBack", unfollowed := true, recurses := true, apart := false }
def BitsBackSaid : Prop := bitsBackRow.holds Try.pinned (OpenSpec.ofChange bitsBackSpec)

/-- ITS FALSE NEIGHBOUR: 'it returns false'. Refute it at one input. -/
def bitsBackWrong : ChangeSpec := { name := "bitsBack", fn := fun _ => fun
  | [d] => { results := [.lit (.bool false)], args := [d] }
  | _ => none }
def BitsBackWrongFalsely : Prop := bitsBackRow.holds Try.pinned (OpenSpec.ofChange bitsBackWrong)

/-- 'carfaxlaw01.BitsLong': WHATEVER THE INPUT: true; the input reads as it did. -/
def bitsLongSpec : ChangeSpec := { name := "bitsLong", fn := fun _ => fun
  | [d1, d2] => { results := [.lit (.bool true)], args := [d1, d2] }
  | _ => none }
def bitsLongRow : OpenClaim := { program := "yteakjgckampkbaa", sum := "89d1950720489183215d84ae1649c109f69bc18c161b052a7ae49f23cff83716", func := "carfax/carfaxlaw01.BitsLong", spec := "bitsLong", unfollowed := true, recurses := true, apart := false }
def BitsLongSaid : Prop := bitsLongRow.holds Try.pinned (OpenSpec.ofChange bitsLongSpec)

/-- ITS FALSE NEIGHBOUR: 'it returns false'. Refute it at one input. -/
def bitsLongWrong : ChangeSpec := { name := "bitsLong", fn := fun _ => fun
  | [d1, d2] => { results := [.lit (.bool false)], args := [d1, d2] }
  | _ => none }
def BitsLongWrongFalsely : Prop := bitsLongRow.holds Try.pinned (OpenSpec.ofChange bitsLongWrong)

/-- 'carfaxlaw01.BitsFirst': WHATEVER THE INPUT: true; the input reads as it did. -/
def bitsFirstSpec : ChangeSpec := { name := "bitsFirst", fn := fun _ => fun
  | [d1, d2] => { results := [.lit (.bool true)], args := [d1, d2] }
  | _ => none }
def bitsFirstRow : OpenClaim := { program := "yteakjgckampkbaa", sum := "89d1950720489183215d84ae1649c109f69bc18c161b052a7ae49f23cff83716", func := "carfax/carfaxlaw01.BitsFirst", spec := "bitsFirst", unfollowed := true, recurses := true, apart := false }
def BitsFirstSaid : Prop := bitsFirstRow.holds Try.pinned (OpenSpec.ofChange bitsFirstSpec)

/-- ITS FALSE NEIGHBOUR: 'it returns false'. Refute it at one input. -/
def bitsFirstWrong : ChangeSpec := { name := "bitsFirst", fn := fun _ => fun
  | [d1, d2] => { results := [.lit (.bool false)], args := [d1, d2] }
  | _ => none }
def BitsFirstWrongFalsely : Prop := bitsFirstRow.holds Try.pinned (OpenSpec.ofChange bitsFirstWrong)

/-- 'carfaxlaw01.BitsLeft': WHATEVER THE INPUT: true; the input reads as it did. -/
def bitsLeftSpec : ChangeSpec := { name := "bitsLeft", fn := fun _ => fun
  | [d1, d2] => { results := [.lit (.bool true)], args := [d1, d2] }
  | _ => none }
def bitsLeftRow : OpenClaim := { program := "yteakjgckampkbaa", sum := "89d1950720489183215d84ae1649c109f69bc18c161b052a7ae49f23cff83716", func := "carfax/carfaxlaw01.BitsLeft", spec := "bitsLeft", unfollowed := true, recurses := true, apart := false }
def BitsLeftSaid : Prop := bitsLeftRow.holds Try.pinned (OpenSpec.ofChange bitsLeftSpec)

/-- ITS FALSE NEIGHBOUR: 'it returns false'. Refute it at one input. -/
def bitsLeftWrong : ChangeSpec := { name := "bitsLeft", fn := fun _ => fun
  | [d1, d2] => { results := [.lit (.bool false)], args := [d1, d2] }
  | _ => none }
def BitsLeftWrongFalsely : Prop := bitsLeftRow.holds Try.pinned (OpenSpec.ofChange bitsLeftWrong)

/- THE SECOND FORM. 'bulk': how many values and letters a reading holds, each counted each time it is reached (what is shared counts as often as it is met; a slice's spare places count too). A statement '..UptoSaid' is the law's where the arguments, and the package variables that the reading takes, are together of bulk at most 1048576: NARROWER than '..Said'. Prove '..Said' where nothing that the law and all that it calls make is longer than what came in: it says more and counts as full. Else prove '..UptoSaid'. A law counts once. -/
mutual
def uptoBulk {H : Type} : DataW H → Nat
  | .lit (.string bytes) => bytes.length + 1
  | .lit _ => 1
  | .nil => 1
  | .ptr d => uptoBulk d + 1
  | .slice elems spare => uptoBulkAll elems + uptoBulkAll spare + 1
  | .agg parts => uptoBulkAll parts + 1
  | .iface _ d => uptoBulk d + 1
  | .map entries => uptoBulkEntries entries + 1
  | .held _ => 1
def uptoBulkAll {H : Type} : List (DataW H) → Nat
  | [] => 0
  | d :: r => uptoBulk d + uptoBulkAll r
def uptoBulkEntries {H : Type} : List (Lit × DataW H) → Nat
  | [] => 0
  | x :: r => uptoBulkEntry x + uptoBulkEntries r
def uptoBulkEntry {H : Type} : Lit × DataW H → Nat
  | (.string bytes, d) => bytes.length + uptoBulk d + 1
  | (_, d) => uptoBulk d + 1
 end
def uptoSmall : (H : Type) → List (DataW H) → Bool := fun _ ds => decide (uptoBulkAll ds ≤ 1048576)
def OpenSpec.upto (s : _root_.Go.ChangeSpec) : _root_.Go.OpenSpec := { _root_.Go.OpenSpec.ofChange s with cond := some uptoSmall }

/-- 'carfaxlaw01.BitsLays', WHERE WHAT IT READS IS OF BULK AT MOST 1048576: true; the input reads as it did. -/
def bitsLaysUptoRow : OpenClaim := { program := "yteakjgckampkbaa", sum := "89d1950720489183215d84ae1649c109f69bc18c161b052a7ae49f23cff83716", func := "carfax/carfaxlaw01.BitsLays", spec := "bitsLays", unfollowed := true, recurses := true, apart := false, narrowed := true }
def BitsLaysUptoSaid : Prop := bitsLaysUptoRow.holds Try.pinned (OpenSpec.upto bitsLaysSpec)

/-- 'carfaxlaw01.BitsFull', WHERE WHAT IT READS IS OF BULK AT MOST 1048576: true; the input reads as it did. -/
def bitsFullUptoRow : OpenClaim := { program := "yteakjgckampkbaa", sum := "89d1950720489183215d84ae1649c109f69bc18c161b052a7ae49f23cff83716", func := "carfax/carfaxlaw01.BitsFull", spec := "bitsFull", unfollowed := true, recurses := true, apart := false, narrowed := true }
def BitsFullUptoSaid : Prop := bitsFullUptoRow.holds Try.pinned (OpenSpec.upto bitsFullSpec)

/-- 'carfaxlaw01.BitsTakes', WHERE WHAT IT READS IS OF BULK AT MOST 1048576: true; the input reads as it did. -/
def bitsTakesUptoRow : OpenClaim := { program := "yteakjgckampkbaa", sum := "89d1950720489183215d84ae1649c109f69bc18c161b052a7ae49f23cff83716", func := "carfax/carfaxlaw01.BitsTakes", spec := "bitsTakes", unfollowed := true, recurses := true, apart := false, narrowed := true }
def BitsTakesUptoSaid : Prop := bitsTakesUptoRow.holds Try.pinned (OpenSpec.upto bitsTakesSpec)

/-- 'carfaxlaw01.BitsBack', WHERE WHAT IT READS IS OF BULK AT MOST 1048576: true; the input reads as it did. -/
def bitsBackUptoRow : OpenClaim := { program := "yteakjgckampkbaa", sum := "89d1950720489183215d84ae1649c109f69bc18c161b052a7ae49f23cff83716", func := "carfax/carfaxlaw01.BitsBack", spec := "bitsBack", unfollowed := true, recurses := true, apart := false, narrowed := true }
def BitsBackUptoSaid : Prop := bitsBackUptoRow.holds Try.pinned (OpenSpec.upto bitsBackSpec)

/-- 'carfaxlaw01.BitsLong', WHERE WHAT IT READS IS OF BULK AT MOST 1048576: true; the input reads as it did. -/
def bitsLongUptoRow : OpenClaim := { program := "yteakjgckampkbaa", sum := "89d1950720489183215d84ae1649c109f69bc18c161b052a7ae49f23cff83716", func := "carfax/carfaxlaw01.BitsLong", spec := "bitsLong", unfollowed := true, recurses := true, apart := false, narrowed := true }
def BitsLongUptoSaid : Prop := bitsLongUptoRow.holds Try.pinned (OpenSpec.upto bitsLongSpec)

/-- 'carfaxlaw01.BitsFirst', WHERE WHAT IT READS IS OF BULK AT MOST 1048576: true; the input reads as it did. -/
def bitsFirstUptoRow : OpenClaim := { program := "yteakjgckampkbaa", sum := "89d1950720489183215d84ae1649c109f69bc18c161b052a7ae49f23cff83716", func := "carfax/carfaxlaw01.BitsFirst", spec := "bitsFirst", unfollowed := true, recurses := true, apart := false, narrowed := true }
def BitsFirstUptoSaid : Prop := bitsFirstUptoRow.holds Try.pinned (OpenSpec.upto bitsFirstSpec)

/-- 'carfaxlaw01.BitsLeft', WHERE WHAT IT READS IS OF BULK AT MOST 1048576: true; the input reads as it did. -/
def bitsLeftUptoRow : OpenClaim := { program := "yteakjgckampkbaa", sum := "89d1950720489183215d84ae1649c109f69bc18c161b052a7ae49f23cff83716", func := "carfax/carfaxlaw01.BitsLeft", spec := "bitsLeft", unfollowed := true, recurses := true, apart := false, narrowed := true }
def BitsLeftUptoSaid : Prop := bitsLeftUptoRow.holds Try.pinned (OpenSpec.upto bitsLeftSpec)

end Rows
end Go.Proofs.Yteakjgckampkbaa
