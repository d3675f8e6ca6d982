/- Opening the arguments of the laws of heaps. -/
import Derived.Test.YtgcoecbbgipgpaaRows
import Derived.Test.YtgcoecbbgipgpaaRow
import Derived.Test.YtgcoecbbgipgpaaOpn
import Derived.Lib.SmallJoins
import Derived.Test.YtgcoecbbgipgpaaHeapG
set_option linter.unusedVariables false
namespace Go.Proofs.Ytgcoecbbgipgpaa
open Go Go.Eng Go.Proofs Go.ChangeShapes Go.WideShapes Go.ChangeAt Go.RowKit
theorem own : ownKnob Try.prog.godebug = none := by kernel_rfl
theorem laidOut : laidOutB Try.prog = true := by kernel_rfl
theorem U3 : Try.prog.underlying 3 = some (.int .i64) := by kernel_rfl
theorem Ubool : Try.prog.underlying 4 = some .bool := by kernel_rfl
theorem Rd_of_rows {α : Type} {f : α → List Value} {sz : Nat} {w : World} {A : Option Addr} {xs : List α} (hf : ∀ a, (f a).length = sz) (hsz : 0 < sz) (h : RowAt w.heap.size sz (fun a x => ∀ j v, (f x)[j]? = some v → w.cell? (a.add j) = some v) A xs) : Rd w (fun k => k < w.heap.size) A (rws f xs) := by
  cases hxs : xs with
  | nil => exact .inl rfl
  | cons z zs =>
    rw [← hxs]
    obtain ⟨a, ha, hb, _⟩ := h 0 z (by rw [hxs]; rfl)
    refine .inr ⟨a, ha, hb, fun j v hv => ?_⟩
    have hj := (List.getElem?_eq_some_iff.1 hv).1
    rw [rws_length hf] at hj
    have hi : j / sz < xs.length := (Nat.div_lt_iff_lt_mul hsz).2 hj
    have hx : xs[j / sz]? = some xs[j / sz] := List.getElem?_eq_getElem hi
    obtain ⟨a', ha', _, hq⟩ := h (j / sz) _ hx
    rw [ha] at ha'
    cases ha'
    have e := rws_get hf hx (j := j % sz) (Nat.mod_lt _ hsz)
    have hd : j / sz * sz + j % sz = j := Nat.div_add_mod' j sz
    rw [hd] at e
    have := hq (j % sz) v (by rw [← e]; exact hv)
    rwa [add_add, hd] at this
theorem open_items {H : Type} {enc : TypeId × Value → H} {W : World} {v : Value} {d : DataW H} {p : List MemPlace} (h : DataW.Trod enc Try.prog W 0 (fun _ => true) true 27 v d p) (hv : ∃ A l c, v = .slice A l c) :
    ∃ (A : Option Addr) (l c : Nat) (xs : List It), v = .slice A l c ∧ xs.length = l ∧ l ≤ c ∧ Rd W (fun k => k < W.heap.size) A (rws it2 xs) := by
  obtain ⟨A, l, c, rfl⟩ := hv
  obtain ⟨fuel, hf⟩ := h
  obtain ⟨A', l', c', xs, h1, h2, h3, h4, h5⟩ := open_slice (α := It) (n := 2) Try.underlying27 (by kernel_rfl) (by decide) hf (fun a x => ∀ j v, (it2 x)[j]? = some v → W.cell? (a.add j) = some v) (fun a m ccs y hl hcell hy => by
    obtain ⟨_, m', hf'⟩ := open_struct Try.underlying32 hy
    match ccs, hl with
    | [v0, v1], _ =>
      obtain ⟨y0, k0⟩ := hf' 0 _ rfl
      obtain ⟨y1, k1⟩ := hf' 1 _ rfl
      have k0' : DataW.trod enc Try.prog W 0 (fun _ => true) true m' 3 [v0] = some y0 := k0
      have k1' : DataW.trod enc Try.prog W 0 (fun _ => true) true m' 3 [v1] = some y1 := k1
      obtain ⟨r, rfl, _, _⟩ := open_int' U3 k0'
      obtain ⟨i, rfl, _, _⟩ := open_int' U3 k1'
      exact ⟨(r, i), hcell⟩)
  simp [Value.cells] at h1
  obtain ⟨rfl, rfl, rfl⟩ := h1
  exact ⟨A, l, c, xs, rfl, h2, h3, Rd_of_rows it2_len (by decide) h5⟩
theorem open_item {H : Type} {enc : TypeId × Value → H} {W : World} {b0 : Nat} {v : Value} {d : DataW H} {p : List MemPlace} (hv : Value.okWide Try.prog W .any b0 32 v) (h : DataW.Trod enc Try.prog W 0 (fun _ => true) true 32 v d p) : ∃ x : It, v = .agg ⟨it2 x⟩ := by
  obtain ⟨x0, x1, y0, y1, n, rfl, _, _, k0, k1⟩ := Go.Joins.open_agg2 Try.underlying32 (by kernel_rfl) (by kernel_rfl) hv h
  obtain ⟨m, e0, _⟩ := DataW.trod_int U3 k0
  obtain ⟨i, e1, _⟩ := DataW.trod_int U3 k1
  simp at e0 e1
  subst e0 e1
  exact ⟨(m, i), rfl⟩
end Go.Proofs.Ytgcoecbbgipgpaa
