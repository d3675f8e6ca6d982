/- Rows of structs: their cells, one by one. -/
import Derived.Test.YtmhjjhpgbafjpaaDoorHp4
set_option linter.unusedVariables false
namespace Go.Eng
open Go
section
variable {α : Type} {f : α → List Value} {sz : Nat}
def rws (f : α → List Value) (xs : List α) : List Value := xs.flatMap f
theorem rws_length (hf : ∀ a, (f a).length = sz) : ∀ xs : List α, (rws f xs).length = xs.length * sz
  | [] => by simp [rws]
  | a :: xs => by
    have := rws_length hf xs
    unfold rws at this ⊢
    rw [List.flatMap_cons, List.length_append, this, hf, List.length_cons, Nat.add_mul]; omega
theorem rws_append (xs ys : List α) : rws f (xs ++ ys) = rws f xs ++ rws f ys := by simp [rws]
theorem rws_one (a : α) : rws f [a] = f a := by simp [rws]
theorem rws_take (hf : ∀ a, (f a).length = sz) (xs : List α) (n : Nat) : (rws f xs).take (n * sz) = rws f (xs.take n) := by
  have h : rws f xs = rws f (xs.take n) ++ rws f (xs.drop n) := by rw [← rws_append, List.take_append_drop]
  by_cases hn : n ≤ xs.length
  · rw [h, List.take_append_of_le_length (by rw [rws_length hf, List.length_take, Nat.min_eq_left hn]; exact Nat.le_refl _), List.take_of_length_le (by rw [rws_length hf, List.length_take, Nat.min_eq_left hn]; exact Nat.le_refl _)]
  · rw [List.take_of_length_le (l := xs) (by omega), List.take_of_length_le]
    rw [rws_length hf]
    exact Nat.mul_le_mul_right _ (by omega)
theorem rws_drop (hf : ∀ a, (f a).length = sz) (xs : List α) (n : Nat) : (rws f xs).drop (n * sz) = rws f (xs.drop n) := by
  have h : rws f xs = rws f (xs.take n) ++ rws f (xs.drop n) := by rw [← rws_append, List.take_append_drop]
  by_cases hn : n ≤ xs.length
  · rw [h, List.drop_append_of_le_length (by rw [rws_length hf, List.length_take, Nat.min_eq_left hn]; exact Nat.le_refl _), List.drop_eq_nil_of_le (by rw [rws_length hf, List.length_take, Nat.min_eq_left hn]; exact Nat.le_refl _), List.nil_append]
  · rw [(List.drop_eq_nil_of_le (by omega) : xs.drop n = []), List.drop_eq_nil_of_le]
    · simp [rws]
    · rw [rws_length hf]
      exact Nat.mul_le_mul_right _ (by omega)
theorem rws_get (hf : ∀ a, (f a).length = sz) {xs : List α} {i : Nat} {a : α} (h : xs[i]? = some a) {j : Nat} (hj : j < sz) : (rws f xs)[i * sz + j]? = (f a)[j]? := by
  have hi := (List.getElem?_eq_some_iff.1 h).1
  have e : xs.drop i = a :: xs.drop (i + 1) := by
    rw [List.drop_eq_getElem_cons hi]
    rw [(List.getElem?_eq_some_iff.1 h).2]
  have h1 : (rws f xs)[i * sz + j]? = ((rws f xs).drop (i * sz))[j]? := by rw [List.getElem?_drop]
  rw [h1, rws_drop hf, e]
  unfold rws
  rw [List.flatMap_cons, List.getElem?_append_left (by rw [hf]; exact hj)]
theorem rws_eraseIdx (xs : List α) (i : Nat) : rws f (xs.eraseIdx i) = rws f (xs.take i) ++ rws f (xs.drop (i + 1)) := by
  rw [List.eraseIdx_eq_take_drop_succ, rws_append]
theorem rws_cells (hf : ∀ a, ∀ v ∈ f a, v.oneCell' = true) (xs : List α) : ∀ v ∈ rws f xs, v.oneCell' = true := by
  intro v hv
  obtain ⟨a, _, h⟩ := List.mem_flatMap.1 hv
  exact hf a v h
/-- A cell of an element of an own row of structs. -/
theorem Own.elem {w : World} {e : TypeId} {ok : Nat → Prop} {A : Option Addr} {l c : Nat} {xs : List α} (h : Own w e sz ok A l c (rws f xs)) (hf : ∀ a, (f a).length = sz) {i : Nat} {a : α} (hx : xs[i]? = some a) (hsz : 0 < sz) :
    ∃ g, A = some ⟨g, 0, none⟩ ∧ ok g ∧ ∀ j v, j < sz → (f a)[j]? = some v → w.cell? (((⟨g, 0, none⟩ : Addr).add (i * sz)).add j) = some v := by
  have hi := (List.getElem?_eq_some_iff.1 hx).1
  have hl := h.1
  rw [rws_length hf] at hl
  have hl' : xs.length = l := Nat.eq_of_mul_eq_mul_right hsz hl
  obtain ⟨g, rfl, hg, _⟩ := h.form (by omega)
  refine ⟨g, rfl, hg, fun j v hj hv => ?_⟩
  have h1 := rws_get hf hx hj
  rw [hv] at h1
  obtain ⟨a', ha, _, hc⟩ := h.rd.at h1
  cases ha
  rw [add_add]; exact hc
end
end Go.Eng
namespace Go.Eng
theorem add_go (g o j : Nat) : (⟨g, o, none⟩ : Addr).add j = ⟨g, o + j, none⟩ := by
  cases j <;> simp [Addr.add]
theorem rws_set3 {α : Type} {f : α → List Value} (hf : ∀ a, (f a).length = 3) {y0 y1 y2 : Value} {a' : α} (hy : f a' = [y0, y1, y2]) : ∀ (xs : List α) (i : Nat), rws f (xs.set i a') = (((rws f xs).set (i * 3) y0).set (i * 3 + 1) y1).set (i * 3 + 2) y2
  | [], i => by simp [rws]
  | x :: xs, 0 => by
    have hl := hf x
    unfold rws
    rw [List.set_cons_zero, List.flatMap_cons, List.flatMap_cons, hy]
    match f x, hl with
    | [a, b, c], _ => rfl
  | x :: xs, i + 1 => by
    have hl := hf x
    have ih := rws_set3 hf hy xs i
    unfold rws at ih ⊢
    rw [List.set_cons_succ, List.flatMap_cons, List.flatMap_cons, ih]
    match f x, hl with
    | [a, b, c], _ =>
      rw [show (i + 1) * 3 = i * 3 + 1 + 1 + 1 by omega]
      simp only [List.cons_append, List.nil_append, List.set_cons_succ]
theorem rws_set2 {α : Type} {f : α → List Value} (hf : ∀ a, (f a).length = 2) {y0 y1 : Value} {a' : α} (hy : f a' = [y0, y1]) : ∀ (xs : List α) (i : Nat), rws f (xs.set i a') = ((rws f xs).set (i * 2) y0).set (i * 2 + 1) y1
  | [], i => by simp [rws]
  | x :: xs, 0 => by
    have hl := hf x
    unfold rws
    rw [List.set_cons_zero, List.flatMap_cons, List.flatMap_cons, hy]
    match f x, hl with
    | [a, b], _ => rfl
  | x :: xs, i + 1 => by
    have hl := hf x
    have ih := rws_set2 hf hy xs i
    unfold rws at ih ⊢
    rw [List.set_cons_succ, List.flatMap_cons, List.flatMap_cons, ih]
    match f x, hl with
    | [a, b], _ =>
      rw [show (i + 1) * 2 = i * 2 + 1 + 1 by omega]
      simp only [List.cons_append, List.nil_append, List.set_cons_succ]
/-- What an own row of cells asks of a store. -/
theorem Own.store {w : World} {e : TypeId} {sz : Nat} {ok : Nat → Prop} {g l c : Nat} {xs : List Value} (h : Own w e sz ok (some ⟨g, 0, none⟩) l c xs) {j : Nat} (hj : j < xs.length) : (∃ u, w.cell? ⟨g, j, none⟩ = some u) ∧ w.frozen? ⟨g, j, none⟩ = false := by
  refine ⟨⟨xs[j], ?_⟩, h.free j⟩
  obtain ⟨a, ha, _, hc⟩ := h.rd.at (List.getElem?_eq_getElem hj)
  cases ha
  rw [add_g] at hc
  exact hc
theorem Own.set3 {α : Type} {f : α → List Value} {w : World} {e : TypeId} {ok : Nat → Prop} {g l c : Nat} {xs : List α} (h : Own w e 3 ok (some ⟨g, 0, none⟩) l c (rws f xs)) (hf : ∀ a, (f a).length = 3) {i : Nat} (hi : i < xs.length) {y0 y1 y2 : Value} {a' : α} (hy : f a' = [y0, y1, y2]) :
    (∃ u, w.cell? ((⟨g, 0, none⟩ : Addr).add (i * 3)) = some u) ∧ w.frozen? ((⟨g, 0, none⟩ : Addr).add (i * 3)) = false ∧
    (∃ u, (w.setCell ((⟨g, 0, none⟩ : Addr).add (i * 3)) y0).cell? (((⟨g, 0, none⟩ : Addr).add (i * 3)).add 1) = some u) ∧ (w.setCell ((⟨g, 0, none⟩ : Addr).add (i * 3)) y0).frozen? (((⟨g, 0, none⟩ : Addr).add (i * 3)).add 1) = false ∧
    (∃ u, ((w.setCell ((⟨g, 0, none⟩ : Addr).add (i * 3)) y0).setCell (((⟨g, 0, none⟩ : Addr).add (i * 3)).add 1) y1).cell? (((⟨g, 0, none⟩ : Addr).add (i * 3)).add 2) = some u) ∧
    ((w.setCell ((⟨g, 0, none⟩ : Addr).add (i * 3)) y0).setCell (((⟨g, 0, none⟩ : Addr).add (i * 3)).add 1) y1).frozen? (((⟨g, 0, none⟩ : Addr).add (i * 3)).add 2) = false ∧
    Own (((w.setCell ((⟨g, 0, none⟩ : Addr).add (i * 3)) y0).setCell (((⟨g, 0, none⟩ : Addr).add (i * 3)).add 1) y1).setCell (((⟨g, 0, none⟩ : Addr).add (i * 3)).add 2) y2) e 3 ok (some ⟨g, 0, none⟩) l c (rws f (xs.set i a')) ∧
    Fr (fun k => k = g) w (((w.setCell ((⟨g, 0, none⟩ : Addr).add (i * 3)) y0).setCell (((⟨g, 0, none⟩ : Addr).add (i * 3)).add 1) y1).setCell (((⟨g, 0, none⟩ : Addr).add (i * 3)).add 2) y2) := by
  have hl := rws_length hf xs
  rw [add_g, add_go, add_go]
  have h1 := h.set (i * 3) y0
  have h2 := h1.set (i * 3 + 1) y1
  have h3 := h2.set (i * 3 + 2) y2
  obtain ⟨a1, a2⟩ := h.store (j := i * 3) (by omega)
  obtain ⟨b1, b2⟩ := h1.store (j := i * 3 + 1) (by rw [List.length_set]; omega)
  obtain ⟨c1, c2⟩ := h2.store (j := i * 3 + 2) (by rw [List.length_set, List.length_set]; omega)
  refine ⟨a1, a2, b1, b2, c1, c2, by rw [rws_set3 hf hy]; exact h3, ?_⟩
  exact (Fr.setCell (F := fun k => k = g) w rfl y0).trans' ((Fr.setCell (F := fun k => k = g) _ rfl y1).trans' (Fr.setCell (F := fun k => k = g) _ rfl y2))
theorem Own.set2 {α : Type} {f : α → List Value} {w : World} {e : TypeId} {ok : Nat → Prop} {g l c : Nat} {xs : List α} (h : Own w e 2 ok (some ⟨g, 0, none⟩) l c (rws f xs)) (hf : ∀ a, (f a).length = 2) {i : Nat} (hi : i < xs.length) {y0 y1 : Value} {a' : α} (hy : f a' = [y0, y1]) :
    (∃ u, w.cell? ((⟨g, 0, none⟩ : Addr).add (i * 2)) = some u) ∧ w.frozen? ((⟨g, 0, none⟩ : Addr).add (i * 2)) = false ∧
    (∃ u, (w.setCell ((⟨g, 0, none⟩ : Addr).add (i * 2)) y0).cell? (((⟨g, 0, none⟩ : Addr).add (i * 2)).add 1) = some u) ∧ (w.setCell ((⟨g, 0, none⟩ : Addr).add (i * 2)) y0).frozen? (((⟨g, 0, none⟩ : Addr).add (i * 2)).add 1) = false ∧
    Own ((w.setCell ((⟨g, 0, none⟩ : Addr).add (i * 2)) y0).setCell (((⟨g, 0, none⟩ : Addr).add (i * 2)).add 1) y1) e 2 ok (some ⟨g, 0, none⟩) l c (rws f (xs.set i a')) ∧
    Fr (fun k => k = g) w ((w.setCell ((⟨g, 0, none⟩ : Addr).add (i * 2)) y0).setCell (((⟨g, 0, none⟩ : Addr).add (i * 2)).add 1) y1) := by
  have hl := rws_length hf xs
  rw [add_g, add_go]
  have h1 := h.set (i * 2) y0
  have h2 := h1.set (i * 2 + 1) y1
  obtain ⟨a1, a2⟩ := h.store (j := i * 2) (by omega)
  obtain ⟨b1, b2⟩ := h1.store (j := i * 2 + 1) (by rw [List.length_set]; omega)
  refine ⟨a1, a2, b1, b2, by rw [rws_set2 hf hy]; exact h2, ?_⟩
  exact (Fr.setCell (F := fun k => k = g) w rfl y0).trans' (Fr.setCell (F := fun k => k = g) _ rfl y1)
end Go.Eng

namespace Go.Eng
/-- Two cells of a block, written. -/
theorem Blk.wr2 {w : World} {b : Nat} {t : TypeId} {x0 x1 : Value} (h : Blk w b t [x0, x1]) (y0 y1 : Value) :
    (∃ u, w.cell? ⟨b, 0, none⟩ = some u) ∧ w.frozen? ⟨b, 0, none⟩ = false ∧ (∃ u, (w.setCell ⟨b, 0, none⟩ y0).cell? ⟨b, 1, none⟩ = some u) ∧ (w.setCell ⟨b, 0, none⟩ y0).frozen? ⟨b, 1, none⟩ = false ∧
    Blk ((w.setCell ⟨b, 0, none⟩ y0).setCell ⟨b, 1, none⟩ y1) b t [y0, y1] ∧ Fr (fun k => k = b) w ((w.setCell ⟨b, 0, none⟩ y0).setCell ⟨b, 1, none⟩ y1) := by
  have b1 := h.set 0 y0
  have b2 := b1.set 1 y1
  exact ⟨h.has 0 (by simp), h.free 0, b1.has 1 (by simp), b1.free 1, b2, (Fr.setCell (F := fun k => k = b) w rfl y0).trans' (Fr.setCell (F := fun k => k = b) _ rfl y1)⟩
theorem Blk.wr2' {w : World} {b : Nat} {t : TypeId} {x0 x1 : Value} (h : Blk w b t [x0, x1]) (y0 y1 : Value) :
    (∃ u, w.cell? ⟨b, 0, none⟩ = some u) ∧ w.frozen? ⟨b, 0, none⟩ = false ∧ (∃ u, (w.setCell ⟨b, 0, none⟩ y0).cell? ((⟨b, 0, none⟩ : Addr).add 1) = some u) ∧ (w.setCell ⟨b, 0, none⟩ y0).frozen? ((⟨b, 0, none⟩ : Addr).add 1) = false ∧
    Blk ((w.setCell ⟨b, 0, none⟩ y0).setCell ((⟨b, 0, none⟩ : Addr).add 1) y1) b t [y0, y1] ∧ Fr (fun k => k = b) w ((w.setCell ⟨b, 0, none⟩ y0).setCell ((⟨b, 0, none⟩ : Addr).add 1) y1) := h.wr2 y0 y1
/-- A cell of an element of a row of structs. -/
theorem Rd.elem {α : Type} {f : α → List Value} {sz : Nat} {w : World} {ok : Nat → Prop} {A : Option Addr} {xs : List α} (h : Rd w ok A (rws f xs)) (hf : ∀ a, (f a).length = sz) {i : Nat} {a : α} (hx : xs[i]? = some a) (hsz : 0 < sz) :
    ∃ p, A = some p ∧ ok p.block ∧ ∀ j v, j < sz → (f a)[j]? = some v → w.cell? ((p.add (i * sz)).add j) = some v := by
  have h0 := rws_get hf hx hsz
  obtain ⟨v0, hv0⟩ : ∃ v, (f a)[0]? = some v := ⟨(f a)[0]'(by rw [hf]; exact hsz), List.getElem?_eq_getElem _⟩
  rw [hv0] at h0
  obtain ⟨p, rfl, hok, _⟩ := h.at h0
  refine ⟨p, rfl, hok, fun j v hj hv => ?_⟩
  have h1 := rws_get hf hx hj
  rw [hv] at h1
  obtain ⟨a', ha, _, hc⟩ := h.at h1
  cases ha
  rw [add_add]; exact hc
end Go.Eng
