/- Opening rows of steps. -/
import Derived.Test.YtmhjjhpgbafjpaaRowKtop
import Derived.Test.YtmhjjhpgbafjpaaTpYtop
set_option linter.unusedVariables false
set_option maxRecDepth 100000
namespace Go.Proofs.Ytmhjjhpgbafjpaa
open Go Go.Eng Go.Proofs Go.ChangeShapes Go.WideShapes Go.ChangeAt Go.RowKit
theorem list5 {α : Type} {l : List α} (h : l.length = 5) : ∃ a b c d e, l = [a, b, c, d, e] := by
  match l, h with
  | [a, b, c, d, e], _ => exact ⟨a, b, c, d, e, rfl⟩
theorem open_steps {H : Type} {enc : TypeId × Value → H} {W : World} {b0 : Nat} {v : Value} {d : DataW H} {p : List MemPlace} (hv : Value.okWide Try.prog W .any b0 45 v) (h : DataW.Trod enc Try.prog W 0 (fun _ => true) true 45 v d p) :
    ∃ (A : Option Addr) (c : Nat) (nl : List Sp), v = .slice A nl.length c ∧ RowAt W.heap.size 5 (SpQ W) A nl := by
  obtain ⟨A, l, c, nl, h1, h2, _, _, h5⟩ := open_row (α := Sp) (n := 5) Try.underlying45 (by kernel_rfl) (by decide) hv h (SpQ W) (fun a m ccs y hl hcell hy => by
    obtain ⟨_, m', hf'⟩ := open_struct Try.underlying69 hy
    obtain ⟨v0, v1, v2, v3, v4, rfl⟩ := list5 hl
    obtain ⟨y0, k0⟩ := hf' 0 _ rfl
    obtain ⟨y1, k1⟩ := hf' 1 _ rfl
    obtain ⟨y2, k2⟩ := hf' 2 _ rfl
    have k0' : DataW.trod enc Try.prog W 0 (fun _ => true) true m' 5 [v0] = some y0 := k0
    have k1' : DataW.trod enc Try.prog W 0 (fun _ => true) true m' 67 [v1, v2, v3] = some y1 := k1
    have k2' : DataW.trod enc Try.prog W 0 (fun _ => true) true m' 3 [v4] = some y2 := k2
    obtain ⟨_, m2, hg⟩ := open_struct Try.underlying67 k1'
    obtain ⟨z0, t0⟩ := hg 0 _ rfl
    obtain ⟨z1, t1⟩ := hg 1 _ rfl
    obtain ⟨z2, t2⟩ := hg 2 _ rfl
    have t0 : DataW.trod enc Try.prog W 0 (fun _ => true) true m2 5 [v1] = some z0 := t0
    have t1 : DataW.trod enc Try.prog W 0 (fun _ => true) true m2 3 [v2] = some z1 := t1
    have t2 : DataW.trod enc Try.prog W 0 (fun _ => true) true m2 3 [v3] = some z2 := t2
    obtain ⟨x0, rfl, _⟩ := open_int' Try.underlying5 k0'
    obtain ⟨x1, rfl, _⟩ := open_int' Try.underlying5 t0
    obtain ⟨x2, rfl, _⟩ := open_int' Try.underlying3 t1
    obtain ⟨x3, rfl, _⟩ := open_int' Try.underlying3 t2
    obtain ⟨x4, rfl, _⟩ := open_int' Try.underlying3 k2'
    exact ⟨⟨x0, ⟨x1, x2, x3⟩, x4⟩, hcell⟩)
  subst h2
  exact ⟨A, c, nl, h1, h5⟩
end Go.Proofs.Ytmhjjhpgbafjpaa
