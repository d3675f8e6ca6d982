/- Opening the acts of the laws of heaps. -/
import Derived.Test.YtgcoecbbgipgpaaHeapR0
import Derived.Test.YtgcoecbbgipgpaaHeapI
set_option linter.unusedVariables false
namespace Go.Proofs.Ytgcoecbbgipgpaa
open Go Go.Eng Go.Proofs Go.ChangeShapes Go.WideShapes Go.ChangeAt Go.RowKit
theorem open_acts {H : Type} {enc : TypeId × Value → H} {W : World} {v : Value} {d : DataW H} {p : List MemPlace} (h : DataW.Trod enc Try.prog W 0 (fun _ => true) true 22 v d p) (hv : ∃ A l c, v = .slice A l c) :
    ∃ (A : Option Addr) (l c : Nat) (al : List HAct), v = .slice A l c ∧ al.length = l ∧ l ≤ c ∧ RowAt W.heap.size 3 (ActQ W) A al := by
  obtain ⟨A, l, c, rfl⟩ := hv
  obtain ⟨fuel, hf⟩ := h
  obtain ⟨A', l', c', al, h1, h2, h3, h4, h5⟩ := open_slice (α := HAct) (n := 3) Try.underlying22 (by kernel_rfl) (by decide) hf (ActQ W) (fun a m ccs y hl hcell hy => by
    obtain ⟨_, m', hf'⟩ := open_struct Try.underlying34 hy
    match ccs, hl with
    | [v0, v1, v2], _ =>
      obtain ⟨y0, k0⟩ := hf' 0 _ rfl
      obtain ⟨y1, k1⟩ := hf' 1 _ rfl
      have k0' : DataW.trod enc Try.prog W 0 (fun _ => true) true m' 4 [v0] = some y0 := k0
      have k1' : DataW.trod enc Try.prog W 0 (fun _ => true) true m' 32 [v1, v2] = some y1 := k1
      obtain ⟨_, m2, hg⟩ := open_struct Try.underlying32 k1'
      obtain ⟨z0, l0⟩ := hg 0 _ rfl
      obtain ⟨z1, l1⟩ := hg 1 _ rfl
      have l0' : DataW.trod enc Try.prog W 0 (fun _ => true) true m2 3 [v1] = some z0 := l0
      have l1' : DataW.trod enc Try.prog W 0 (fun _ => true) true m2 3 [v2] = some z1 := l1
      obtain ⟨b, rfl⟩ := open_bool' Ubool k0'
      obtain ⟨r, rfl, r1, r2⟩ := open_int' U3 l0'
      obtain ⟨i, rfl, i1, i2⟩ := open_int' U3 l1'
      have hc0 := hcell 0 _ rfl
      rw [add_zero'] at hc0
      exact ⟨(b, r, i), hc0, hcell 1 _ rfl, hcell 2 _ rfl, ⟨r1, r2⟩, i1, i2⟩)
  simp [Value.cells] at h1
  obtain ⟨rfl, rfl, rfl⟩ := h1
  exact ⟨A, l, c, al, rfl, h2, h3, h5⟩
end Go.Proofs.Ytgcoecbbgipgpaa
