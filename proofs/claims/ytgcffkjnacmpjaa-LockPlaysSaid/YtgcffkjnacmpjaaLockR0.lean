/- Opening the arguments of the laws of locks. -/
import Derived.Test.YtgcffkjnacmpjaaRows
import Derived.Test.YtgcffkjnacmpjaaRow
import Derived.Test.YtgcffkjnacmpjaaOpn
import Derived.Test.YtgcffkjnacmpjaaLockD
set_option linter.unusedVariables false
namespace Go.Proofs.Ytgcffkjnacmpjaa
open Go Go.Eng Go.Proofs Go.ChangeShapes Go.WideShapes Go.ChangeAt Go.RowKit
theorem own : ownKnob Try.prog.godebug = none := by kernel_rfl
theorem laidOut : laidOutB Try.prog = true := by kernel_rfl
theorem U3 : Try.prog.underlying 3 = some (.int .i64) := by kernel_rfl
theorem U5 : Try.prog.underlying 5 = some (.int .u8) := by kernel_rfl
theorem Ubool : Try.prog.underlying 4 = some .bool := by kernel_rfl
theorem open_acts {H : Type} {enc : TypeId × Value → H} {W : World} {v : Value} {d : DataW H} {p : List MemPlace} (h : DataW.Trod enc Try.prog W 0 (fun _ => true) true 22 v d p) (hv : ∃ A l c, v = .slice A l c) :
    ∃ (A : Option Addr) (l c : Nat) (al : List LAct), v = .slice A l c ∧ al.length = l ∧ l ≤ c ∧ RowAt W.heap.size 3 (ActQ W) A al := by
  obtain ⟨A, l, c, rfl⟩ := hv
  obtain ⟨fuel, hf⟩ := h
  obtain ⟨A', l', c', al, h1, h2, h3, h4, h5⟩ := open_slice (α := LAct) (n := 3) Try.underlying22 (by kernel_rfl) (by decide) hf (ActQ W) (fun a m ccs y hl hcell hy => by
    obtain ⟨_, m', hf'⟩ := open_struct Try.underlying28 hy
    match ccs, hl with
    | [v0, v1, v2], _ =>
      obtain ⟨y0, k0⟩ := hf' 0 _ rfl
      obtain ⟨y1, k1⟩ := hf' 1 _ rfl
      obtain ⟨y2, k2⟩ := hf' 2 _ rfl
      have k0' : DataW.trod enc Try.prog W 0 (fun _ => true) true m' 4 [v0] = some y0 := k0
      have k1' : DataW.trod enc Try.prog W 0 (fun _ => true) true m' 3 [v1] = some y1 := k1
      have k2' : DataW.trod enc Try.prog W 0 (fun _ => true) true m' 3 [v2] = some y2 := k2
      obtain ⟨b, rfl⟩ := open_bool' Ubool k0'
      obtain ⟨r, rfl, r1, r2⟩ := open_int' U3 k1'
      obtain ⟨i, rfl, i1, i2⟩ := open_int' U3 k2'
      have hc0 := hcell 0 _ rfl
      rw [add_zero'] at hc0
      exact ⟨(b, r, i), hc0, hcell 1 _ rfl, hcell 2 _ rfl, ⟨r1, r2⟩, i1, i2⟩)
  simp [Value.cells] at h1
  obtain ⟨rfl, rfl, rfl⟩ := h1
  exact ⟨A, l, c, al, rfl, h2, h3, h5⟩
end Go.Proofs.Ytgcffkjnacmpjaa
