/- Opening rows of rows of bytes. -/
import Derived.Test.YthjekadmkconnaaRowK16
import Derived.Test.YthjekadmkconnaaJnL16
set_option linter.unusedVariables false
namespace Go.Proofs.Ythjekadmkconnaa
open Go Go.Eng Go.Proofs Go.ChangeShapes Go.WideShapes Go.ChangeAt Go.RowKit
theorem open_args {H : Type} {enc : TypeId × Value → H} {W : World} {b0 : Nat} {v : Value} {d : DataW H} {p : List MemPlace} (hv : Value.okWide Try.prog W .any b0 22 v) (h : DataW.Trod enc Try.prog W 0 (fun _ => true) true 22 v d p) :
    ∃ (A : Option Addr) (c : Nat) (xss : List Bs), v = .slice A xss.length c ∧ Arg W A c xss := by
  obtain ⟨A, l, c, xss, h1, h2, h3, h4, h5⟩ := open_row (α := Bs) (n := 1) Try.underlying22 (by kernel_rfl) (by decide) hv h
    (fun a ys => ∃ B d, W.cell? a = some (.slice B ys.length d) ∧ ys.length ≤ d ∧ Rd W (fun k => k < W.heap.size) B (bvs ys)) (fun a m ccs y hl hcell hy => by
    match ccs, hl with
    | [v0], _ =>
      obtain ⟨B, d, ys, rfl, k1, k2, k3⟩ := open_bytes Try.underlying30 Try.underlying5 (by kernel_rfl) hy
      have hc0 := hcell 0 _ rfl
      rw [add_zero'] at hc0
      exact ⟨ys, B, d, hc0, k1, k3⟩)
  subst h2
  refine ⟨A, c, xss, h1, ?_⟩
  obtain ⟨vs, hvl, hvs⟩ := exists_list (R := fun i (v : Value) => ∃ ys B d, xss[i]? = some ys ∧ v = .slice B ys.length d ∧ ys.length ≤ d ∧ Rd W (fun k => k < W.heap.size) B (bvs ys) ∧ ∃ a, A = some a ∧ a.block < W.heap.size ∧ W.cell? (a.add i) = some v) xss.length (fun i hi => by
    have hx : xss[i]? = some xss[i] := List.getElem?_eq_getElem hi
    obtain ⟨a, ha, hb, B, d, k1, k2, k3⟩ := h5 i _ hx
    rw [Nat.mul_one] at k1
    exact ⟨_, xss[i], B, d, hx, rfl, k2, k3, a, ha, hb, k1⟩)
  refine ⟨vs, ?_, ⟨hvl, fun i ys hi => ?_⟩, h3, h4⟩
  · cases hvv : vs with
    | nil => exact .inl rfl
    | cons z zs =>
      rw [← hvv]
      obtain ⟨_, _, _, _, _, _, _, a, ha, hb, _⟩ := hvs 0 z (by rw [hvv]; rfl)
      refine .inr ⟨a, ha, hb, fun j v hj => ?_⟩
      obtain ⟨_, _, _, _, _, _, _, a', ha', _, hc⟩ := hvs j v hj
      rw [ha] at ha'
      cases ha'
      exact hc
  · have hlt : i < vs.length := by rw [hvl]; exact (List.getElem?_eq_some_iff.1 hi).1
    obtain ⟨ys', B, d, k1, k2, k3, k4, _⟩ := hvs i vs[i] (List.getElem?_eq_getElem hlt)
    rw [hi] at k1
    cases k1
    exact ⟨B, d, by rw [List.getElem?_eq_getElem hlt, k2], k3, k4⟩
end Go.Proofs.Ythjekadmkconnaa
