/- Opening rows of acts. -/
import Derived.Test.YtkighcolplcnbaaRowK12
import Derived.Test.YtkighcolplcnbaaAgI12
set_option linter.unusedVariables false
namespace Go.Proofs.Ytkighcolplcnbaa
open Go Go.Eng Go.Proofs Go.ChangeShapes Go.WideShapes Go.ChangeAt Go.RowKit
theorem open_acts {H : Type} {enc : TypeId × Value → H} {W : World} {b0 : Nat} {v : Value} {d : DataW H} {p : List MemPlace} (hv : Value.okWide Try.prog W .any b0 22 v) (h : DataW.Trod enc Try.prog W 0 (fun _ => true) true 22 v d p) :
    ∃ (A : Option Addr) (c : Nat) (al : List Act), v = .slice A al.length c ∧ al.length ≤ c ∧ c ≤ maxLen ∧ RowAt W.heap.size 2 (ActQ W) A al := by
  obtain ⟨A, l, c, al, h1, h2, h3, h4, h5⟩ := open_row (α := Act) (n := 2) Try.underlying22 (by kernel_rfl) (by decide) hv h (ActQ W) (fun a m ccs y hl hcell hy => by
    obtain ⟨_, m', hf'⟩ := open_struct Try.underlying31 hy
    match ccs, hl with
    | [v0, v1], _ =>
      obtain ⟨y0, k0⟩ := hf' 0 _ rfl
      obtain ⟨y1, k1⟩ := hf' 1 _ rfl
      have k0' : DataW.trod enc Try.prog W 0 (fun _ => true) true m' 5 [v0] = some y0 := k0
      have k1' : DataW.trod enc Try.prog W 0 (fun _ => true) true m' 3 [v1] = some y1 := k1
      obtain ⟨n, rfl, n1, n2⟩ := open_int' Try.underlying5 k0'
      obtain ⟨i, rfl, _, _⟩ := open_int' Try.underlying3 k1'
      simp [IntKind.min, IntKind.max, IntKind.bits, IntKind.signed] at n1 n2
      exact ⟨(n, i), hcell, n1, by show n < 256; omega⟩)
  subst h2
  exact ⟨A, c, al, h1, h3, h4, h5⟩
end Go.Proofs.Ytkighcolplcnbaa
