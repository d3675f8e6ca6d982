/- Opening the arguments of a seat's laws: what all seats share. -/
import Derived.Test.YtmhjjhpgbafjpaaDoorRows
import Derived.Test.YtmhjjhpgbafjpaaDoorRow
import Derived.Test.YtmhjjhpgbafjpaaDoorOpn
import Derived.Lib.SmallJoins
import Derived.Test.YtmhjjhpgbafjpaaDoorSfree
set_option linter.unusedVariables false
set_option maxRecDepth 100000
namespace Go.Proofs.YtmhjjhpgbafjpaaDoor
open Go Go.Eng Go.Proofs Go.ChangeShapes Go.WideShapes Go.ChangeAt Go.RowKit
theorem own : ownKnob Tryd.prog.godebug = none := by kernel_rfl
theorem laidOut : laidOutB Tryd.prog = true := by kernel_rfl
theorem Ubool : Tryd.prog.underlying 4 = some .bool := by kernel_rfl
theorem open_num {H : Type} {enc : TypeId × Value → H} {W : World} {b0 : Nat} {t : TypeId} {k : IntKind} {v : Value} {d : DataW H} {p : List MemPlace} (ht : Tryd.prog.underlying t = some (.int k)) (hv : Value.okWide Tryd.prog W .any b0 t v) (h : DataW.Trod enc Tryd.prog W 0 (fun _ => true) true t v d p) :
    ∃ n, v = .int k n ∧ k.min ≤ n ∧ n ≤ k.max := by
  obtain ⟨n, rfl, _, _, hm⟩ := open_int ht hv h
  simp [Lit.wf] at hm
  exact ⟨n, rfl, hm.1, hm.2⟩
theorem open_row {α : Type} {H : Type} {enc : TypeId × Value → H} {W : World} {b0 : Nat} {t e : TypeId} {n : Nat} {v : Value} {d : DataW H} {p : List MemPlace} (ht : Tryd.prog.underlying t = some (.slice e)) (hc : Tryd.prog.cellsOf e = n) (hn : 0 < n) (hv : Value.okWide Tryd.prog W .any b0 t v) (h : DataW.Trod enc Tryd.prog W 0 (fun _ => true) true t v d p) (Q : Addr → α → Prop)
    (hel : ∀ (a : Addr) (m : Nat) (ccs : List Value) (y : DataW H × List MemPlace), ccs.length = n → (∀ (j : Nat) (v : Value), ccs[j]? = some v → W.cell? (a.add j) = some v) → DataW.trod enc Tryd.prog W 0 (fun _ => true) true m e ccs = some y → ∃ z, Q a z) :
    ∃ (A : Option Addr) (l c : Nat) (xs : List α), v = .slice A l c ∧ xs.length = l ∧ l ≤ c ∧ c ≤ maxLen ∧ RowAt W.heap.size n Q A xs := by
  obtain ⟨A, l, c, rfl⟩ := okWide_slice ht hv
  obtain ⟨fuel, hf⟩ := h
  obtain ⟨A', l', c', xs, h1, h2, h3, h4, h5⟩ := open_slice (α := α) ht hc hn hf Q hel
  simp [Value.cells] at h1
  obtain ⟨rfl, rfl, rfl⟩ := h1
  exact ⟨A, l, c, xs, rfl, h2, h3, h4, h5⟩
theorem open_bs {H : Type} {enc : TypeId × Value → H} {W : World} {b0 : Nat} {t e : TypeId} {v : Value} {d : DataW H} {p : List MemPlace} (ht : Tryd.prog.underlying t = some (.slice e)) (he : Tryd.prog.underlying e = some (.int .u8)) (hc : Tryd.prog.cellsOf e = 1) (hv : Value.okWide Tryd.prog W .any b0 t v) (h : DataW.Trod enc Tryd.prog W 0 (fun _ => true) true t v d p) :
    ∃ (A : Option Addr) (c : Nat) (xs : List UInt8), v = .slice A xs.length c ∧ xs.length ≤ c ∧ c ≤ maxLen ∧ Rd W (fun k => k < W.heap.size) A (bvs xs) := by
  obtain ⟨A, l, c, rfl⟩ := okWide_slice ht hv
  obtain ⟨fuel, hf⟩ := h
  obtain ⟨A', c', xs, h1, h2, h3, h4⟩ := open_bytes ht he hc hf
  simp at h1
  obtain ⟨rfl, rfl, rfl⟩ := h1
  exact ⟨A, c, xs, rfl, h2, h3, h4⟩
end Go.Proofs.YtmhjjhpgbafjpaaDoor
