/- Opening rows of notes. -/
import Derived.Test.YtmhjjhpgbafjpaaRowKtop
import Derived.Test.YtmhjjhpgbafjpaaTpNtop
set_option linter.unusedVariables false
set_option maxRecDepth 100000
namespace Go.Proofs.Ytmhjjhpgbafjpaa
open Go Go.Eng Go.Proofs Go.ChangeShapes Go.WideShapes Go.ChangeAt Go.RowKit
theorem list7 {α : Type} {l : List α} (h : l.length = 7) : ∃ a b c d e f g, l = [a, b, c, d, e, f, g] := by
  match l, h with
  | [a, b, c, d, e, f, g], _ => exact ⟨a, b, c, d, e, f, g, rfl⟩
theorem open_notes {H : Type} {enc : TypeId × Value → H} {W : World} {b0 : Nat} {v : Value} {d : DataW H} {p : List MemPlace} (hv : Value.okWide Try.prog W .any b0 22 v) (h : DataW.Trod enc Try.prog W 0 (fun _ => true) true 22 v d p) :
    ∃ (A : Option Addr) (c : Nat) (nl : List Nt), v = .slice A nl.length c ∧ RowAt W.heap.size 7 (NtQ W) A nl := by
  obtain ⟨A, l, c, nl, h1, h2, _, _, h5⟩ := open_row (α := Nt) (n := 7) Try.underlying22 (by kernel_rfl) (by decide) hv h (NtQ W) (fun a m ccs y hl hcell hy => by
    obtain ⟨_, m', hf'⟩ := open_struct Try.underlying35 hy
    obtain ⟨v0, v1, v2, v3, v4, v5, v6, rfl⟩ := list7 hl
    obtain ⟨y0, k0⟩ := hf' 0 _ rfl
    obtain ⟨y6, k6⟩ := hf' 1 _ rfl
    have k0' : DataW.trod enc Try.prog W 0 (fun _ => true) true m' 33 [v0, v1, v2, v3, v4, v5] = some y0 := k0
    have k6' : DataW.trod enc Try.prog W 0 (fun _ => true) true m' 4 [v6] = some y6 := k6
    obtain ⟨_, m2, hg⟩ := open_struct Try.underlying33 k0'
    obtain ⟨z0, t0⟩ := hg 0 _ rfl
    obtain ⟨z1, t1⟩ := hg 1 _ rfl
    obtain ⟨z2, t2⟩ := hg 2 _ rfl
    obtain ⟨z3, t3⟩ := hg 3 _ rfl
    obtain ⟨z4, t4⟩ := hg 4 _ rfl
    obtain ⟨z5, t5⟩ := hg 5 _ rfl
    have t0 : DataW.trod enc Try.prog W 0 (fun _ => true) true m2 5 [v0] = some z0 := t0
    have t1 : DataW.trod enc Try.prog W 0 (fun _ => true) true m2 3 [v1] = some z1 := t1
    have t2 : DataW.trod enc Try.prog W 0 (fun _ => true) true m2 3 [v2] = some z2 := t2
    have t3 : DataW.trod enc Try.prog W 0 (fun _ => true) true m2 3 [v3] = some z3 := t3
    have t4 : DataW.trod enc Try.prog W 0 (fun _ => true) true m2 3 [v4] = some z4 := t4
    have t5 : DataW.trod enc Try.prog W 0 (fun _ => true) true m2 3 [v5] = some z5 := t5
    obtain ⟨x0, rfl, _⟩ := open_int' Try.underlying5 t0
    obtain ⟨x1, rfl, _⟩ := open_int' Try.underlying3 t1
    obtain ⟨x2, rfl, _⟩ := open_int' Try.underlying3 t2
    obtain ⟨x3, rfl, _⟩ := open_int' Try.underlying3 t3
    obtain ⟨x4, rfl, _⟩ := open_int' Try.underlying3 t4
    obtain ⟨x5, rfl, _⟩ := open_int' Try.underlying3 t5
    obtain ⟨b, rfl⟩ := open_bool' Ubool k6'
    exact ⟨(⟨x0, x1, x2, x3, x4, x5⟩, b), hcell⟩)
  subst h2
  exact ⟨A, c, nl, h1, h5⟩
end Go.Proofs.Ytmhjjhpgbafjpaa
