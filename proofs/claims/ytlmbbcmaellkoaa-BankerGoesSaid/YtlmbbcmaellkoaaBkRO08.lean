/- Opening rows of claims. -/
import Derived.Test.YtlmbbcmaellkoaaRowK08
import Derived.Test.YtlmbbcmaellkoaaBkG08
set_option linter.unusedVariables false
namespace Go.Proofs.Ytlmbbcmaellkoaa
open Go Go.Eng Go.Proofs Go.ChangeShapes Go.WideShapes Go.ChangeAt Go.RowKit
theorem open_ints {H : Type} {enc : TypeId × Value → H} {W : World} {fuel : Nat} {v : Value} {x : DataW H × List MemPlace} (h : DataW.trod enc Try.prog W 0 (fun _ => true) true fuel 26 [v] = some x) :
    ∃ (A : Option Addr) (c : Nat) (xs : List Int), v = .slice A xs.length c ∧ xs.length ≤ c ∧ Rd W (fun k => k < W.heap.size) A (ints xs) := by
  obtain ⟨A, l, c, xs, h1, h2, h3, h4, h5⟩ := open_slice (α := Int) Try.underlying26 (by kernel_rfl) (by decide : 0 < 1) h (fun a b => W.cell? a = some (.int .i64 b)) (fun a m ccs y hl hcell hy => by
    match ccs, hl with
    | [v], _ =>
      obtain ⟨n, rfl, _, _⟩ := open_int' Try.underlying3 hy
      have h0 := hcell 0 _ rfl
      rw [add_zero'] at h0
      exact ⟨n, h0⟩)
  simp at h1
  subst h2
  refine ⟨A, c, xs, h1, h3, ?_⟩
  cases hxs : xs with
  | nil => exact .inl rfl
  | cons z zs =>
    rw [← hxs]
    obtain ⟨a, ha, hb, _⟩ := h5 0 z (by rw [hxs]; rfl)
    refine .inr ⟨a, ha, hb, fun j v hv => ?_⟩
    simp [ints] at hv
    obtain ⟨b, hb1, rfl⟩ := hv
    obtain ⟨a2, ha2, _, hq⟩ := h5 j b hb1
    rw [ha] at ha2
    cases ha2
    rwa [Nat.mul_one] at hq
theorem open_claims {H : Type} {enc : TypeId × Value → H} {W : World} {b0 : Nat} {v : Value} {d : DataW H} {p : List MemPlace} (hv : Value.okWide Try.prog W .any b0 22 v) (h : DataW.Trod enc Try.prog W 0 (fun _ => true) true 22 v d p) :
    ∃ (A : Option Addr) (c : Nat) (al : List Cl), v = .slice A al.length c ∧ al.length ≤ c ∧ c ≤ maxLen ∧ RowAt W.heap.size 2 (ClQ W W.heap.size) A al := by
  obtain ⟨A, l, c, al, h1, h2, h3, h4, h5⟩ := open_row (α := Cl) (n := 2) Try.underlying22 (by kernel_rfl) (by decide) hv h (ClQ W W.heap.size) (fun a m ccs y hl hcell hy => by
    obtain ⟨_, m', hf'⟩ := open_struct Try.underlying28 hy
    match ccs, hl with
    | [v0, v1], _ =>
      obtain ⟨y0, k0⟩ := hf' 0 _ rfl
      obtain ⟨y1, k1⟩ := hf' 1 _ rfl
      have k0' : DataW.trod enc Try.prog W 0 (fun _ => true) true m' 26 [v0] = some y0 := k0
      have k1' : DataW.trod enc Try.prog W 0 (fun _ => true) true m' 26 [v1] = some y1 := k1
      obtain ⟨A0, c0, xs0, rfl, e0, r0⟩ := open_ints k0'
      obtain ⟨A1, c1, xs1, rfl, e1, r1⟩ := open_ints k1'
      exact ⟨⟨A0, c0, xs0, A1, c1, xs1⟩, hcell, r0, r1, e0, e1⟩)
  subst h2
  exact ⟨A, c, al, h1, h3, h4, h5⟩
end Go.Proofs.Ytlmbbcmaellkoaa
