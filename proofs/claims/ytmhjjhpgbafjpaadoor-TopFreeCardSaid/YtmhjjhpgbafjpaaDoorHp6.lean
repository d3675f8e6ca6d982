/- make of a row, and copy of all of it. -/
import Derived.Test.YtmhjjhpgbafjpaaDoorHp5
import Derived.Laws.MakeOwn
import Derived.Laws.IdiomCopy
set_option linter.unusedVariables false
namespace Go.Eng
open Go
/-- What make needs to know of an element's type: of one cell, and its zero value. -/
def MkT (P : Program) (t e : TypeId) (z : Value) (bytes : Nat) : Prop := P.underlying t = some (.slice e) ∧ ∃ i : TypeInfo, P.info? e = some i ∧ i.zero = some z ∧ i.size = 1 ∧ i.bytes = bytes ∧ z.cells = #[z]
theorem made_list (z : Value) (n : Nat) (hz : z.cells = #[z]) : madeCells z.cells n = ⟨List.replicate n z⟩ := by
  rw [hz]
  apply Array.ext
  · simp [size_madeCells]
  · intro i h1 h2
    simp [madeCells, Nat.mod_one]
theorem run_mk {P : Program} {t e : TypeId} {z : Value} {bytes : Nat} (T : MkT P t e z bytes) (w : World) (n : Nat) (hb : n * bytes ≤ 281474976710656) (hn : n ≤ maxLen) :
    (Instr.makeSlice t (.int .i64 (n : Int)) (.int .i64 (n : Int))).run P w = .ok (.slice (some ⟨w.heap.size, 0, none⟩) n n) (w.alloc (.cells ⟨List.replicate n z⟩ e)) := by
  obtain ⟨ht, i, hi, hz, hs, hby, hzc⟩ := T
  subst hby
  simp only [maxLen] at hn
  have hb' : (i.bytes : Int) * (n : Int) ≤ 281474976710656 := by
    have h : ((i.bytes * n : Nat) : Int) ≤ 281474976710656 := by rw [Nat.mul_comm]; omega
    rwa [Int.natCast_mul] at h
  have h := run_make (P := P) w t e i z ht hi hz .i64 .i64 (n : Int) (n : Int) (by omega) (Int.le_refl _) hb' (by omega)
  rw [Int.toNat_natCast, hs, Nat.mul_one, made_list z n hzc] at h
  exact h
def setL (xs : List Value) : Nat → List Value → List Value
  | _, [] => xs
  | o, v :: vs => setL (xs.set o v) (o + 1) vs
theorem setL_eq : ∀ (vs xs : List Value) (o : Nat), o + vs.length ≤ xs.length → setL xs o vs = xs.take o ++ vs ++ xs.drop (o + vs.length)
  | [], xs, o, h => by simp [setL]
  | v :: vs, xs, o, h => by
    simp only [List.length_cons] at h ⊢
    rw [setL, setL_eq vs (xs.set o v) (o + 1) (by rw [List.length_set]; omega), List.take_add_one, List.getElem?_set_self (by omega), List.take_set_of_le (Nat.le_refl o), List.drop_set_of_lt (by omega)]
    simp [Nat.add_assoc, Nat.add_comm 1]
theorem Own.setCells {e : TypeId} {sz : Nat} {ok : Nat → Prop} {g l c : Nat} : ∀ (vs : List Value) (o : Nat) {xs : List Value} {w : World}, Own w e sz ok (some ⟨g, 0, none⟩) l c xs →
    Own (w.setCells g o vs) e sz ok (some ⟨g, 0, none⟩) l c (setL xs o vs) ∧ Fr (fun k => k = g) w (w.setCells g o vs)
  | [], o, xs, w, h => ⟨h, Fr.refl _ _⟩
  | v :: vs, o, xs, w, h => by
    obtain ⟨h2, h3⟩ := Own.setCells vs (o + 1) (h.set o v)
    exact ⟨h2, (Fr.setCell (F := fun k => k = g) w rfl v).trans' h3⟩
theorem run_copy_all {P : Program} {dT sT ty e : TypeId} (hu : P.underlying dT = some (.slice e)) (hs : (P.info? e).map (·.size) = some 1) {w : World} {ok ok2 : Nat → Prop} {g n c c2 : Nat} {A2 : Option Addr} {xs news : List Value}
    (hd : Own w e 1 ok (some ⟨g, 0, none⟩) n c xs) (hr : Rd w ok2 A2 news) (hn : news.length = n) (h1 : ∀ v ∈ news, v.oneCell' = true) :
    ∃ w', (Builtin.copy_ #[dT, sT] ty ⟨[.slice (some ⟨g, 0, none⟩) n c, .slice A2 n c2]⟩).run P w = .ok (.int .i64 (n : Int)) w' ∧ Own w' e 1 ok (some ⟨g, 0, none⟩) n c news ∧ Fr (fun k => k = g) w w' := by
  have hlen := hd.1
  rw [Nat.mul_one] at hlen
  by_cases h0 : n = 0
  · subst h0
    have e1 : news = [] := List.eq_nil_of_length_eq_zero hn
    have e2 : xs = [] := List.eq_nil_of_length_eq_zero hlen
    subst e1 e2
    exact ⟨w, run_copy_none w dT sT ty e _ _ 0 c 0 c2 hu hs rfl, hd, Fr.refl _ _⟩
  · rcases hr with h | ⟨a, rfl, _, hc⟩
    · subst h; simp at hn; omega
    · have hrun := run_copy_cells w dT sT ty e g 0 n c a n c2 news hu hs (by rw [hn]; exact (Nat.min_self n).symm) hc
        (fun j hj => by rw [Nat.zero_add]; obtain ⟨⟨u, hu⟩, _⟩ := hd.store (j := j) (by omega); rw [hu]; rfl) (fun j hj => by rw [Nat.zero_add]; exact hd.free j) h1
      obtain ⟨h2, h3⟩ := Own.setCells news 0 hd
      rw [setL_eq news xs 0 (by omega)] at h2
      rw [hn] at hrun
      refine ⟨_, hrun, ?_, h3⟩
      have : xs.take 0 ++ news ++ xs.drop (0 + news.length) = news := by
        rw [List.drop_eq_nil_of_le (by omega)]; simp
      rwa [this] at h2
end Go.Eng
