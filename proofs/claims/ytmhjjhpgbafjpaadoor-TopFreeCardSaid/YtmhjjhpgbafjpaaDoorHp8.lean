/- clear of an owned row's tail, of elements of many cells; slices.Delete of one. -/
import Derived.Test.YtmhjjhpgbafjpaaDoorHp6
import Derived.Test.YtmhjjhpgbafjpaaDoorHp5
set_option linter.unusedVariables false
namespace Go.Eng
open Go
theorem own_setCellsN {e : TypeId} {sz : Nat} {ok : Nat → Prop} {g l c : Nat} {xs : List Value} : ∀ (vs : List Value) (o : Nat) {w : World}, l * sz ≤ o → Own w e sz ok (some ⟨g, 0, none⟩) l c xs →
    Own (w.setCells g o vs) e sz ok (some ⟨g, 0, none⟩) l c xs ∧ Fr (ownAt (some ⟨g, 0, none⟩)) w (w.setCells g o vs)
  | [], o, w, _, h => ⟨h, Fr.refl _ _⟩
  | v :: vs, o, w, ho, h => by
    have h1 := h.set o v
    rw [List.set_eq_of_length_le (by rw [h.1]; omega)] at h1
    obtain ⟨h2, h3⟩ := own_setCellsN vs (o + 1) (by omega) h1
    exact ⟨h2, (Fr.setCell w ⟨_, rfl, rfl⟩ v).trans' h3⟩
theorem zeroCells_one {zs : Array Value} {n : Nat} (hz : 0 < zs.size) (h : ∀ u ∈ zs.toList, u.oneCell' = true) : ∀ u ∈ (Builtin.zeroCells zs n).toList, u.oneCell' = true := by
  intro u hu
  simp only [Builtin.zeroCells, Array.toList_map, List.mem_map] at hu
  obtain ⟨i, _, rfl⟩ := hu
  have hi : i % zs.size < zs.size := Nat.mod_lt _ hz
  rw [getElem!_pos zs (i % zs.size) hi]
  exact h _ (by simp)
theorem run_clearN {P : Program} {t e ty : TypeId} {z : Value} {sz : Nat} (ht : P.underlying t = some (.slice e)) (hz : ∀ w, (zeroValue e).run P w = .ok z w) (hzc : z.cells.size = sz) (hsz : 0 < sz) (h1 : ∀ u ∈ z.cells.toList, u.oneCell' = true) {w : World} {ok : Nat → Prop} {A : Option Addr} {l c n : Nat} {xs : List Value}
    (h : Own w e sz ok A l c xs) (hn : l ≤ n) (hc : n ≤ c) :
    ∃ w', (Builtin.clear_ #[t] ty ⟨[.slice (slAddr A c l sz) (n - l) (c - l)]⟩).run P w = .ok (.tuple ⟨[]⟩) w' ∧ Own w' e sz ok A l c xs ∧ Fr (ownAt A) w w' := by
  by_cases hz0 : n - l = 0
  · refine ⟨w, ?_, h, Fr.refl _ _⟩
    rw [hz0]
    cases slAddr A c l sz <;> simp [Builtin.clear_, run_ul ht]
  · rcases h.2 with ⟨rfl, h2, h3⟩ | ⟨g, cur, rfl, hok, hg, hlc, hcm, hcs, htake⟩
    · omega
    · have hne : c ≠ l := by omega
      have hA : slAddr (some ⟨g, 0, none⟩) c l sz = some ⟨g, l * sz, none⟩ := by
        unfold slAddr; rw [if_neg hne]
        simp only [Option.map_some, Addr.add]
        split <;> simp_all
      rw [hA]
      have hlen : (Builtin.zeroCells z.cells (n - l)).toList.length = (n - l) * sz := by
        simp [Builtin.zeroCells, hzc]
      have hmul : l * sz + (n - l) * sz ≤ c * sz := by rw [← Nat.add_mul]; exact Nat.mul_le_mul_right _ (by omega)
      have hst := run_storeCells_cells (P := P) g (l * sz) (Builtin.zeroCells z.cells (n - l)).toList 0 w
        (fun j hj => by rw [hlen] at hj; simp [World.cell?, hg]; omega) (fun j hj => h.free _) (zeroCells_one (by omega) h1)
      simp only [Nat.add_zero] at hst
      obtain ⟨h4, h5⟩ := own_setCellsN (Builtin.zeroCells z.cells (n - l)).toList (l * sz) (Nat.le_refl _) h
      refine ⟨_, ?_, h4, h5⟩
      obtain ⟨m, hm⟩ : ∃ m, n - l = m + 1 := ⟨n - l - 1, by omega⟩
      rw [hm] at hst ⊢
      show (Builtin.clear_ #[t] ty #[.slice (some ⟨g, l * sz, none⟩) (m + 1) (c - l)]).run P w = .ok (.tuple #[]) _
      simp [Builtin.clear_, run_underlying ht, hz, hst]
theorem rws_upd {α : Type} {f : α → List Value} {sz : Nat} (hf : ∀ a, (f a).length = sz) {a a' : α} {j : Nat} {v : Value} (hj : j < sz) (h : f a' = (f a).set j v) : ∀ (xs : List α) (i : Nat), xs[i]? = some a → rws f (xs.set i a') = (rws f xs).set (i * sz + j) v
  | [], i, hx => by simp at hx
  | x :: xs, 0, hx => by
    simp at hx
    subst hx
    unfold rws
    rw [List.set_cons_zero, List.flatMap_cons, List.flatMap_cons, h, Nat.zero_mul, Nat.zero_add, List.set_append_left _ _ (by rw [hf]; exact hj)]
  | x :: xs, i + 1, hx => by
    have hx' : xs[i]? = some a := by simpa using hx
    have ih := rws_upd hf hj h xs i hx'
    unfold rws at ih ⊢
    rw [List.set_cons_succ, List.flatMap_cons, List.flatMap_cons, ih, List.set_append_right _ _ (by rw [hf, Nat.succ_mul]; omega)]
    congr 2
    rw [hf, Nat.succ_mul]; omega
end Go.Eng
