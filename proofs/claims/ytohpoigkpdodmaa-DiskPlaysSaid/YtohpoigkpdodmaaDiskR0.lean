/- Opening the arguments of the laws of disks. -/
import Derived.Test.YtohpoigkpdodmaaRows
import Derived.Test.YtohpoigkpdodmaaRow
import Derived.Test.YtohpoigkpdodmaaOpn
import Derived.Lib.SmallJoins
import Derived.Test.YtohpoigkpdodmaaDiskD
set_option linter.unusedVariables false
namespace Go.Proofs.Ytohpoigkpdodmaa
open Go Go.Eng Go.Proofs Go.ChangeShapes Go.WideShapes Go.ChangeAt Go.RowKit
theorem own : ownKnob Try.prog.godebug = none := by kernel_rfl
theorem laidOut : laidOutB Try.prog = true := by kernel_rfl
theorem U3 : Try.prog.underlying 3 = some (.int .i64) := by kernel_rfl
theorem Ubool : Try.prog.underlying 4 = some .bool := by kernel_rfl
theorem open_acts {H : Type} {enc : TypeId × Value → H} {W : World} {v : Value} {d : DataW H} {p : List MemPlace} (h : DataW.Trod enc Try.prog W 0 (fun _ => true) true 33 v d p) (hv : ∃ A l c, v = .slice A l c) :
    ∃ (A : Option Addr) (l c : Nat) (al : List Act), v = .slice A l c ∧ al.length = l ∧ l ≤ c ∧ RowAt W.heap.size 3 (ActQ W W.heap.size) A al := by
  obtain ⟨A, l, c, rfl⟩ := hv
  obtain ⟨fuel, hf⟩ := h
  obtain ⟨A', l', c', al, h1, h2, h3, h4, h5⟩ := open_slice (α := Act) (n := 3) Try.underlying33 (by kernel_rfl) (by decide) hf (ActQ W W.heap.size) (fun a m ccs y hl hcell hy => by
    obtain ⟨_, m', hf'⟩ := open_struct Try.underlying36 hy
    match ccs, hl with
    | [v0, v1, v2], _ =>
      obtain ⟨y0, k0⟩ := hf' 0 _ rfl
      obtain ⟨y1, k1⟩ := hf' 1 _ rfl
      obtain ⟨y2, k2⟩ := hf' 2 _ rfl
      have k0' : DataW.trod enc Try.prog W 0 (fun _ => true) true m' 5 [v0] = some y0 := k0
      have k1' : DataW.trod enc Try.prog W 0 (fun _ => true) true m' 28 [v1] = some y1 := k1
      have k2' : DataW.trod enc Try.prog W 0 (fun _ => true) true m' 3 [v2] = some y2 := k2
      obtain ⟨n, rfl, n1, n2⟩ := open_int' U5 k0'
      obtain ⟨A1, c1, xs, rfl, _, _, hr⟩ := open_bytes U28 U5 (by kernel_rfl) k1'
      obtain ⟨i, rfl, i1, i2⟩ := open_int' U3 k2'
      have hc0 := hcell 0 _ rfl
      rw [add_zero'] at hc0
      simp [IntKind.min, IntKind.max, IntKind.bits, IntKind.signed] at n1 n2
      exact ⟨(n, xs, i), A1, c1, hc0, hcell 1 _ rfl, hcell 2 _ rfl, hr, n1, by omega, i1, i2⟩)
  simp [Value.cells] at h1
  obtain ⟨rfl, rfl, rfl⟩ := h1
  exact ⟨A, l, c, al, rfl, h2, h3, h5⟩
theorem open_act {H : Type} {enc : TypeId × Value → H} {W : World} {b0 : Nat} {v : Value} {d : DataW H} {p : List MemPlace} (hv : Value.okWide Try.prog W .any b0 36 v) (h : DataW.Trod enc Try.prog W 0 (fun _ => true) true 36 v d p) :
    ∃ (k : Int) (A : Option Addr) (l c : Nat) (n : Int), v = .agg ⟨[.int .u8 k, .slice A l c, .int .i64 n]⟩ ∧ 0 ≤ k ∧ k < 256 := by
  obtain ⟨x0, x1, x2, y0, y1, y2, n, rfl, _, _, k0, k1, k2⟩ := Go.Joins.open_agg3 Try.underlying36 (by kernel_rfl) (by kernel_rfl) hv h
  obtain ⟨m, rfl, m1, m2⟩ := open_int' U5 k0
  obtain ⟨i, rfl, _⟩ := open_int' U3 k2
  simp [IntKind.min, IntKind.max, IntKind.bits, IntKind.signed] at m1 m2
  obtain ⟨A, l, c, e1⟩ : ∃ A l c, x1 = .slice A l c := by
    rcases DataW.trod_slice U28 k1 with ⟨h, _⟩ | ⟨a, len, cap, _, _, _, _, h, _⟩
    · simp at h; exact ⟨_, _, _, h⟩
    · simp at h; exact ⟨_, _, _, h⟩
  subst e1
  exact ⟨m, A, l, c, i, rfl, m1, by omega⟩
end Go.Proofs.Ytohpoigkpdodmaa
