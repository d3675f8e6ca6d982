/- Opening rows of what is laid. -/
import Derived.Test.YteakjgckampkbaaRowK01
import Derived.Test.YteakjgckampkbaaBitT01
set_option linter.unusedVariables false
namespace Go.Proofs.Yteakjgckampkbaa
open Go Go.Eng Go.Proofs Go.ChangeShapes Go.WideShapes Go.ChangeAt Go.RowKit
theorem open_puts {H : Type} {enc : TypeId × Value → H} {W : World} {b0 : Nat} {v : Value} {d : DataW H} {p : List MemPlace} (hv : Value.okWide Try.prog W .any b0 22 v) (h : DataW.Trod enc Try.prog W 0 (fun _ => true) true 22 v d p) :
    ∃ (A : Option Addr) (l c : Nat) (xs : List Pt), v = .slice A l c ∧ xs.length = l ∧ l ≤ c ∧ l ≤ maxLen ∧ RowAt W.heap.size 3 (PutQ W) A xs := by
  obtain ⟨A, l, c, xs, h1, h2, h3, h4, h5⟩ := open_row (α := Pt) (n := 3) Try.underlying22 (by kernel_rfl) (by decide) hv h (PutQ W) (fun a m ccs y hl hcell hy => by
    obtain ⟨_, m', hf'⟩ := open_struct Try.underlying30 hy
    match ccs, hl with
    | [v0, v1, v2], _ =>
      obtain ⟨y0, k0⟩ := hf' 0 _ rfl
      obtain ⟨y1, k1⟩ := hf' 1 _ rfl
      obtain ⟨y2, k2⟩ := hf' 2 _ rfl
      have k0' : DataW.trod enc Try.prog W 0 (fun _ => true) true m' 4 [v0] = some y0 := k0
      have k1' : DataW.trod enc Try.prog W 0 (fun _ => true) true m' 28 [v1] = some y1 := k1
      have k2' : DataW.trod enc Try.prog W 0 (fun _ => true) true m' 3 [v2] = some y2 := k2
      obtain ⟨r, rfl⟩ := open_bool' Try.underlying4 k0'
      obtain ⟨i, rfl, i1, i2⟩ := open_int' Try.underlying28 k1'
      obtain ⟨j, rfl, j1, j2⟩ := open_int' Try.underlying3 k2'
      simp [IntKind.min, IntKind.max, IntKind.bits, IntKind.signed] at i1 i2
      obtain ⟨n, rfl⟩ : ∃ n : Nat, i = (n : Int) := ⟨i.toNat, by omega⟩
      have hc0 := hcell 0 _ rfl
      rw [add_zero'] at hc0
      exact ⟨(r, n, j), hc0, hcell 1 _ rfl, hcell 2 _ rfl, by show n < 2 ^ 64; omega⟩)
  exact ⟨A, l, c, xs, h1, h2, h3, Nat.le_trans h3 h4, h5⟩
end Go.Proofs.Yteakjgckampkbaa
