/- More of the heap: own rows that grow, arrays in a block, rows of ints. -/
import Derived.Test.YtmhjjhpgbafjpaaDoorOpn
import Derived.Test.YtmhjjhpgbafjpaaDoorHp2
import Derived.Test.YtmhjjhpgbafjpaaDoorHp3
set_option linter.unusedVariables false
namespace Go.Eng
open Go
theorem add_g (g i : Nat) : (⟨g, 0, none⟩ : Addr).add i = ⟨g, i, none⟩ := by
  cases i <;> simp [Addr.add]
theorem bw_mono {B : Nat} {w w' : World} (h : w.heap.size ≤ w'.heap.size) {k : Nat} (hk : bw B w k) : bw B w' k := ⟨hk.1, Nat.lt_of_lt_of_le hk.2 h⟩
theorem appB {P : Program} {t ty e : TypeId} {sz bytes : Nat} (T : ElT P t e sz bytes) {w : World} {ok2 : Nat → Prop} {B : Nat} {A A2 : Option Addr} {l c m c2 : Nat} {xs news : List Value}
    (hown : Own w e sz (bw B w) A l c xs) (hB : B ≤ w.heap.size) (hn : news.length = m * sz) (hr : Rd w ok2 A2 news) (h1 : ∀ u ∈ news, u.oneCell' = true) (hb : (l + m) * bytes ≤ 140737488355328) (hm : l + m ≤ maxLen) :
    ∃ A' c' w', (Builtin.append_ #[t, t] ty ⟨[.slice A l c, .slice A2 m c2]⟩).run P w = .ok (.slice A' (l + m) c') w' ∧ Own w' e sz (bw B w') A' (l + m) c' (xs ++ news) ∧ Fr (ownAt A) w w' ∧ Bel B w w' := by
  obtain ⟨A', c', w', h2, h3, h4, _⟩ := run_append (ty := ty) (c2 := c2) T hown hn hr h1 hb hm
  refine ⟨A', c', w', h2, h3.mono fun k hk h => ?_, h4, h4.bel fun k ⟨a, ha, hab⟩ => hab ▸ (hown.has a ha).1.1⟩
  rcases h with h | h
  · exact ⟨h.1, hk⟩
  · exact ⟨Nat.le_trans hB h, hk⟩
theorem ownB {B : Nat} {w w' : World} {e sz l c : Nat} {A : Option Addr} {xs : List Value} (h : Own w e sz (bw B w) A l c xs) (f : Fr none1 w w') : Own w' e sz (bw B w') A l c xs :=
  (h.fr f fun _ _ _ h => h).mono fun k hk h => ⟨h.1, hk⟩
/-- One element more, of one cell. -/
theorem app1 {P : Program} {t ty e : TypeId} {bytes : Nat} (T : ElT P t e 1 bytes) {w : World} {B : Nat} {A : Option Addr} {l c : Nat} {xs : List Value} (hown : Own w e 1 (bw B w) A l c xs) (hB : B ≤ w.heap.size) (u : Value) (h1 : u.oneCell' = true)
    (hb : (l + 1) * bytes ≤ 140737488355328) (hm : l + 1 ≤ maxLen) :
    ∃ A' c' w', (Builtin.append_ #[t, t] ty ⟨[.slice A l c, .slice (some ⟨w.heap.size, 0, none⟩) 1 1]⟩).run P (w.alloc (.cells ⟨[u]⟩ e)) = .ok (.slice A' (l + 1) c') w' ∧ Own w' e 1 (bw B w') A' (l + 1) c' (xs ++ [u]) ∧ Fr (ownAt A) w w' ∧ Bel B w w' := by
  have a2 : Fr none1 w (w.alloc (.cells ⟨[u]⟩ e)) := Fr.alloc _ _
  have lit := Own.lit w e 1 1 [u] rfl (by simp [maxLen])
  obtain ⟨A', c', w3, r3, o3, f4, g4⟩ := appB (ty := ty) (m := 1) (c2 := 1) T (ownB hown a2) (Nat.le_trans hB a2.size) rfl lit.rd (fun v hv => by simp at hv; subst hv; exact h1) hb hm
  exact ⟨A', c', w3, r3, o3, (a2.mono fun _ _ h => h.elim).trans' f4, a2.bel0.trans' g4⟩
theorem RowAt.take {α : Type} {B n : Nat} {Q : Addr → α → Prop} {A : Option Addr} {xs : List α} (h : RowAt B n Q A xs) (m : Nat) : RowAt B n Q A (xs.take m) := fun i z hz => by
  rw [List.getElem?_take] at hz
  split at hz
  · exact h i z hz
  · cases hz
theorem Fr.hasTy {F : Nat → Prop} {w w' : World} (f : Fr F w w') {ts : List Nat} {k : Nat} (hk : k < w.heap.size) (hF : ¬ F k) : Go.Eng.hasTy w' ts k ↔ Go.Eng.hasTy w ts k := by
  unfold Go.Eng.hasTy; rw [f.block k hk hF]
/-- A row of ints. -/
def ints (xs : List Int) : List Value := xs.map (Value.int .i64)
theorem ints_one (xs : List Int) : ∀ u ∈ ints xs, u.oneCell' = true := by
  intro u hu
  obtain ⟨x, _, rfl⟩ := List.mem_map.1 hu
  rfl
theorem ints_get {xs : List Int} {i : Nat} {x : Int} (h : xs[i]? = some x) : (ints xs)[i]? = some (.int .i64 x) := by simp [ints, h]
theorem ints_length (xs : List Int) : (ints xs).length = xs.length := by simp [ints]
/-- An array of n ints, by a function. -/
def arr (n : Nat) (f : Nat → Int) : List Value := (List.range n).map fun i => .int .i64 (f i)
theorem arr_get {n : Nat} {f : Nat → Int} {i : Nat} (h : i < n) : (arr n f)[i]? = some (.int .i64 (f i)) := by simp [arr, h]
theorem arr_length (n : Nat) (f : Nat → Int) : (arr n f).length = n := by simp [arr]
def upd (f : Nat → Int) (z : Nat) (v : Int) : Nat → Int := fun i => if i = z then v else f i
theorem arr_set (n : Nat) (f : Nat → Int) (z : Nat) (v : Int) : (arr n f).set z (.int .i64 v) = arr n (upd f z v) := by
  apply List.ext_getElem?
  intro i
  rw [List.getElem?_set]
  by_cases hi : i < n
  · rw [arr_get hi, arr_length, arr_get hi]
    by_cases e : z = i
    · subst e; simp [upd, hi]
    · simp [upd, e, Ne.symm e]
  · have h1 : (arr n f)[i]? = none := by rw [List.getElem?_eq_none]; rw [arr_length]; omega
    have h2 : (arr n (upd f z v))[i]? = none := by rw [List.getElem?_eq_none]; rw [arr_length]; omega
    rw [h1, h2, arr_length]
    split
    · rw [if_neg (by omega)]
    · rfl
end Go.Eng
