/- Opening rows of acts. -/
import Derived.Test.YthjekadmkconnaaCkRO16
import Derived.Test.YthjekadmkconnaaJnL16
set_option linter.unusedVariables false
namespace Go.Proofs.Ythjekadmkconnaa
open Go Go.Eng Go.Proofs Go.ChangeShapes Go.WideShapes Go.ChangeAt Go.RowKit
theorem open_acts {H : Type} {enc : TypeId × Value → H} {W : World} {b0 : Nat} {v : Value} {d : DataW H} {p : List MemPlace} (hv : Value.okWide Try.prog W .any b0 38 v) (h : DataW.Trod enc Try.prog W 0 (fun _ => true) true 38 v d p) :
    ∃ (A : Option Addr) (l c : Nat) (al : List Act), v = .slice A l c ∧ al.length = l ∧ l ≤ c ∧ RowAt W.heap.size 3 (ActQ W W.heap.size) A al := by
  obtain ⟨A, l, c, al, h1, h2, h3, _, h5⟩ := open_row (α := Act) (n := 3) Try.underlying38 (by kernel_rfl) (by decide) hv h (ActQ W W.heap.size) (fun a m ccs y hl hcell hy => by
    obtain ⟨_, m', hf'⟩ := open_struct Try.underlying41 hy
    match ccs, hl with
    | [v0, v1, v2], _ =>
      obtain ⟨y0, k0⟩ := hf' 0 _ rfl
      obtain ⟨y1, k1⟩ := hf' 1 _ rfl
      obtain ⟨y2, k2⟩ := hf' 2 _ rfl
      have k0' : DataW.trod enc Try.prog W 0 (fun _ => true) true m' 5 [v0] = some y0 := k0
      have k1' : DataW.trod enc Try.prog W 0 (fun _ => true) true m' 30 [v1] = some y1 := k1
      have k2' : DataW.trod enc Try.prog W 0 (fun _ => true) true m' 3 [v2] = some y2 := k2
      obtain ⟨n, rfl, n1, n2⟩ := open_int' Try.underlying5 k0'
      obtain ⟨A1, c1, xs, rfl, hlc, _, hr⟩ := open_bytes Try.underlying30 Try.underlying5 (by kernel_rfl) k1'
      obtain ⟨i, rfl, i1, i2⟩ := open_int' Try.underlying3 k2'
      have hc0 := hcell 0 _ rfl
      rw [add_zero'] at hc0
      simp [IntKind.min, IntKind.max, IntKind.bits, IntKind.signed] at n1 n2
      exact ⟨(n, xs, i), A1, c1, hc0, hcell 1 _ rfl, hcell 2 _ rfl, hr, n1, by omega, i1, i2, hlc⟩)
  exact ⟨A, l, c, al, h1, h2, h3, h5⟩
end Go.Proofs.Ythjekadmkconnaa
