/- Opening records and acts. -/
import Derived.Test.YtbncolgoejcfcaaRowK17
import Derived.Test.YtbncolgoejcfcaaRcL17
set_option linter.unusedVariables false
namespace Go.Proofs.Ytbncolgoejcfcaa
open Go Go.Eng Go.Proofs Go.ChangeShapes Go.WideShapes Go.ChangeAt Go.RowKit
theorem array6 {α : Type} {cs : Array α} (h : cs.size = 6) : ∃ c0 c1 c2 c3 c4 c5, cs = #[c0, c1, c2, c3, c4, c5] := by
  obtain ⟨l⟩ := cs
  match l, h with
  | [c0, c1, c2, c3, c4, c5], _ => exact ⟨c0, c1, c2, c3, c4, c5, rfl⟩
theorem open_rec {H : Type} {enc : TypeId × Value → H} {W : World} {b0 : Nat} {v : Value} {d : DataW H} {p : List MemPlace} (hv : Value.okWide Try.prog W .any b0 23 v) (h : DataW.Trod enc Try.prog W 0 (fun _ => true) true 23 v d p) : ∃ x : Rc, v = rval x := by
  obtain ⟨cs, rfl, hsz⟩ := okWide_struct Try.underlying23 hv
  obtain ⟨x0, x1, x2, x3, x4, x5, rfl⟩ := array6 (hsz.trans (by kernel_rfl : Try.prog.cellsOf 23 = 6))
  obtain ⟨fuel, hf⟩ := h
  obtain ⟨_, m, hf'⟩ := open_struct Try.underlying23 hf
  obtain ⟨y0, k0⟩ := hf' 0 _ rfl
  obtain ⟨y1, k1⟩ := hf' 1 _ rfl
  obtain ⟨y2, k2⟩ := hf' 2 _ rfl
  obtain ⟨y3, k3⟩ := hf' 3 _ rfl
  obtain ⟨y4, k4⟩ := hf' 4 _ rfl
  obtain ⟨y5, k5⟩ := hf' 5 _ rfl
  have k0 : DataW.trod enc Try.prog W 0 (fun _ => true) true m 5 [x0] = some y0 := k0
  have k1 : DataW.trod enc Try.prog W 0 (fun _ => true) true m 3 [x1] = some y1 := k1
  have k2 : DataW.trod enc Try.prog W 0 (fun _ => true) true m 3 [x2] = some y2 := k2
  have k3 : DataW.trod enc Try.prog W 0 (fun _ => true) true m 3 [x3] = some y3 := k3
  have k4 : DataW.trod enc Try.prog W 0 (fun _ => true) true m 3 [x4] = some y4 := k4
  have k5 : DataW.trod enc Try.prog W 0 (fun _ => true) true m 3 [x5] = some y5 := k5
  obtain ⟨m0, e0, _⟩ := DataW.trod_int Try.underlying5 k0
  obtain ⟨m1, e1, _⟩ := DataW.trod_int Try.underlying3 k1
  obtain ⟨m2, e2, _⟩ := DataW.trod_int Try.underlying3 k2
  obtain ⟨m3, e3, _⟩ := DataW.trod_int Try.underlying3 k3
  obtain ⟨m4, e4, _⟩ := DataW.trod_int Try.underlying3 k4
  obtain ⟨m5, e5, _⟩ := DataW.trod_int Try.underlying3 k5
  simp at e0 e1 e2 e3 e4 e5
  subst e0 e1 e2 e3 e4 e5
  exact ⟨⟨m0, m1, m2, m3, m4, m5⟩, rfl⟩
theorem open_act {H : Type} {enc : TypeId × Value → H} {W : World} {b0 : Nat} {v : Value} {d : DataW H} {p : List MemPlace} (hv : Value.okWide Try.prog W .any b0 31 v) (h : DataW.Trod enc Try.prog W 0 (fun _ => true) true 31 v d p) : ∃ x : Ac, v = aval x := by
  obtain ⟨x0, x1, x2, y0, y1, y2, n, rfl, _, _, k0, k1, k2⟩ := Go.Joins.open_agg3 Try.underlying31 (by kernel_rfl) (by kernel_rfl) hv h
  obtain ⟨m0, e0, _⟩ := DataW.trod_int Try.underlying5 k0
  obtain ⟨m1, e1, _⟩ := DataW.trod_int Try.underlying3 k1
  obtain ⟨m2, e2, _⟩ := DataW.trod_int Try.underlying3 k2
  simp at e0 e1 e2
  subst e0 e1 e2
  exact ⟨⟨m0, m1, m2⟩, rfl⟩
end Go.Proofs.Ytbncolgoejcfcaa
