/- Rows of structs: their cells, one by one. -/
import Derived.Test.YtgcffkjnacmpjaaHp4
set_option linter.unusedVariables false
namespace Go.Eng
open Go
section
variable {α : Type} {f : α → List Value} {sz : Nat}
def rws (f : α → List Value) (xs : List α) : List Value := xs.flatMap f
theorem rws_length (hf : ∀ a, (f a).length = sz) : ∀ xs : List α, (rws f xs).length = xs.length * sz
  | [] => by simp [rws]
  | a :: xs => by
    have := rws_length hf xs
    unfold rws at this ⊢
    rw [List.flatMap_cons, List.length_append, this, hf, List.length_cons, Nat.add_mul]; omega
theorem rws_append (xs ys : List α) : rws f (xs ++ ys) = rws f xs ++ rws f ys := by simp [rws]
theorem rws_one (a : α) : rws f [a] = f a := by simp [rws]
theorem rws_take (hf : ∀ a, (f a).length = sz) (xs : List α) (n : Nat) : (rws f xs).take (n * sz) = rws f (xs.take n) := by
  have h : rws f xs = rws f (xs.take n) ++ rws f (xs.drop n) := by rw [← rws_append, List.take_append_drop]
  by_cases hn : n ≤ xs.length
  · rw [h, List.take_append_of_le_length (by rw [rws_length hf, List.length_take, Nat.min_eq_left hn]; exact Nat.le_refl _), List.take_of_length_le (by rw [rws_length hf, List.length_take, Nat.min_eq_left hn]; exact Nat.le_refl _)]
  · rw [List.take_of_length_le (l := xs) (by omega), List.take_of_length_le]
    rw [rws_length hf]
    exact Nat.mul_le_mul_right _ (by omega)
theorem rws_drop (hf : ∀ a, (f a).length = sz) (xs : List α) (n : Nat) : (rws f xs).drop (n * sz) = rws f (xs.drop n) := by
  have h : rws f xs = rws f (xs.take n) ++ rws f (xs.drop n) := by rw [← rws_append, List.take_append_drop]
  by_cases hn : n ≤ xs.length
  · rw [h, List.drop_append_of_le_length (by rw [rws_length hf, List.length_take, Nat.min_eq_left hn]; exact Nat.le_refl _), List.drop_eq_nil_of_le (by rw [rws_length hf, List.length_take, Nat.min_eq_left hn]; exact Nat.le_refl _), List.nil_append]
  · rw [(List.drop_eq_nil_of_le (by omega) : xs.drop n = []), List.drop_eq_nil_of_le]
    · simp [rws]
    · rw [rws_length hf]
      exact Nat.mul_le_mul_right _ (by omega)
theorem rws_get (hf : ∀ a, (f a).length = sz) {xs : List α} {i : Nat} {a : α} (h : xs[i]? = some a) {j : Nat} (hj : j < sz) : (rws f xs)[i * sz + j]? = (f a)[j]? := by
  have hi := (List.getElem?_eq_some_iff.1 h).1
  have e : xs.drop i = a :: xs.drop (i + 1) := by
    rw [List.drop_eq_getElem_cons hi]
    rw [(List.getElem?_eq_some_iff.1 h).2]
  have h1 : (rws f xs)[i * sz + j]? = ((rws f xs).drop (i * sz))[j]? := by rw [List.getElem?_drop]
  rw [h1, rws_drop hf, e]
  unfold rws
  rw [List.flatMap_cons, List.getElem?_append_left (by rw [hf]; exact hj)]
theorem rws_eraseIdx (xs : List α) (i : Nat) : rws f (xs.eraseIdx i) = rws f (xs.take i) ++ rws f (xs.drop (i + 1)) := by
  rw [List.eraseIdx_eq_take_drop_succ, rws_append]
theorem rws_cells (hf : ∀ a, ∀ v ∈ f a, v.oneCell' = true) (xs : List α) : ∀ v ∈ rws f xs, v.oneCell' = true := by
  intro v hv
  obtain ⟨a, _, h⟩ := List.mem_flatMap.1 hv
  exact hf a v h
/-- A cell of an element of an own row of structs. -/
theorem Own.elem {w : World} {e : TypeId} {ok : Nat → Prop} {A : Option Addr} {l c : Nat} {xs : List α} (h : Own w e sz ok A l c (rws f xs)) (hf : ∀ a, (f a).length = sz) {i : Nat} {a : α} (hx : xs[i]? = some a) (hsz : 0 < sz) :
    ∃ g, A = some ⟨g, 0, none⟩ ∧ ok g ∧ ∀ j v, j < sz → (f a)[j]? = some v → w.cell? (((⟨g, 0, none⟩ : Addr).add (i * sz)).add j) = some v := by
  have hi := (List.getElem?_eq_some_iff.1 hx).1
  have hl := h.1
  rw [rws_length hf] at hl
  have hl' : xs.length = l := Nat.eq_of_mul_eq_mul_right hsz hl
  obtain ⟨g, rfl, hg, _⟩ := h.form (by omega)
  refine ⟨g, rfl, hg, fun j v hj hv => ?_⟩
  have h1 := rws_get hf hx hj
  rw [hv] at h1
  obtain ⟨a', ha, _, hc⟩ := h.rd.at h1
  cases ha
  rw [add_add]; exact hc
end
end Go.Eng
