/- Opening rows of what is taken. -/
import Derived.Test.YteakjgckampkbaaRowK01
import Derived.Test.YteakjgckampkbaaBitM01
set_option linter.unusedVariables false
namespace Go.Proofs.Yteakjgckampkbaa
open Go Go.Eng Go.Proofs Go.ChangeShapes Go.WideShapes Go.ChangeAt Go.RowKit
theorem open_takes {H : Type} {enc : TypeId × Value → H} {W : World} {b0 : Nat} {v : Value} {d : DataW H} {p : List MemPlace} (hv : Value.okWide Try.prog W .any b0 42 v) (h : DataW.Trod enc Try.prog W 0 (fun _ => true) true 42 v d p) :
    ∃ (A : Option Addr) (l c : Nat) (xs : List Tk), v = .slice A l c ∧ xs.length = l ∧ l ≤ c ∧ l ≤ maxLen ∧ RowAt W.heap.size 2 (TakeQ W) A xs := by
  obtain ⟨A, l, c, xs, h1, h2, h3, h4, h5⟩ := open_row (α := Tk) (n := 2) Try.underlying42 (by kernel_rfl) (by decide) hv h (TakeQ W) (fun a m ccs y hl hcell hy => by
    obtain ⟨_, m', hf'⟩ := open_struct Try.underlying48 hy
    match ccs, hl with
    | [v0, v1], _ =>
      obtain ⟨y0, k0⟩ := hf' 0 _ rfl
      obtain ⟨y1, k1⟩ := hf' 1 _ rfl
      have k0' : DataW.trod enc Try.prog W 0 (fun _ => true) true m' 4 [v0] = some y0 := k0
      have k1' : DataW.trod enc Try.prog W 0 (fun _ => true) true m' 3 [v1] = some y1 := k1
      obtain ⟨r, rfl⟩ := open_bool' Try.underlying4 k0'
      obtain ⟨i, rfl, i1, i2⟩ := open_int' Try.underlying3 k1'
      have hc0 := hcell 0 _ rfl
      rw [add_zero'] at hc0
      exact ⟨(r, i), hc0, hcell 1 _ rfl, i1, i2⟩)
  exact ⟨A, l, c, xs, h1, h2, h3, Nat.le_trans h3 h4, h5⟩
end Go.Proofs.Yteakjgckampkbaa
