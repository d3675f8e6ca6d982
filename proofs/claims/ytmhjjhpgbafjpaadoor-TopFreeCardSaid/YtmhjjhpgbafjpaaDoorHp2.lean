import Derived.Test.YtmhjjhpgbafjpaaDoorHp
import Derived.Lib.SliceRun
set_option linter.unusedVariables false
namespace Go.Eng
open Go
def elTb (P : Program) (t e sz bytes : Nat) : Bool :=
  (match P.underlying t with | some (.slice e') => Nat.beq e' e | _ => false) &&
  (match P.info? e with
    | some i => (match i.zero with | some z => Nat.beq i.size sz && (Nat.beq i.bytes bytes && Nat.beq z.cells.size sz) | none => false)
    | none => false) && Nat.blt 0 sz
theorem elT_of {P : Program} {t e sz bytes : Nat} (h : elTb P t e sz bytes = true) : ElT P t e sz bytes := by
  simp only [elTb, Bool.and_eq_true] at h
  obtain ⟨⟨h1, h2⟩, h3⟩ := h
  refine ⟨?_, ?_, by simpa using h3⟩
  · split at h1
    · rename_i e' he; rw [he, Nat.eq_of_beq_eq_true h1]
    · cases h1
  · split at h2
    · rename_i i hi
      split at h2
      · rename_i z hz
        simp only [Bool.and_eq_true] at h2
        exact ⟨i, z, hi, hz, Nat.eq_of_beq_eq_true h2.1, Nat.eq_of_beq_eq_true h2.2.1, Nat.eq_of_beq_eq_true h2.2.2⟩
      · cases h2
    · cases h2
/-- clear of an owned row's tail. -/
theorem own_setCells {e : TypeId} {ok : Nat → Prop} {g l c : Nat} {xs : List Value} : ∀ (vs : List Value) (o : Nat) {w : World}, l ≤ o → Own w e 1 ok (some ⟨g, 0, none⟩) l c xs →
    Own (w.setCells g o vs) e 1 ok (some ⟨g, 0, none⟩) l c xs ∧ Fr (ownAt (some ⟨g, 0, none⟩)) w (w.setCells g o vs)
  | [], o, w, _, h => ⟨h, Fr.refl _ _⟩
  | v :: vs, o, w, ho, h => by
    have h1 := h.set o v
    rw [List.set_eq_of_length_le (by rw [h.1]; omega)] at h1
    obtain ⟨h2, h3⟩ := own_setCells vs (o + 1) (by omega) h1
    exact ⟨h2, (Fr.setCell w ⟨_, rfl, rfl⟩ v).trans' h3⟩
theorem run_clear {P : Program} {t e ty : TypeId} {z : Value} (ht : P.underlying t = some (.slice e)) (hz : ∀ w, (zeroValue e).run P w = .ok z w) (hzc : z.cells = #[z]) (h1 : z.oneCell' = true) {w : World} {ok : Nat → Prop} {A : Option Addr} {l c n : Nat} {xs : List Value}
    (h : Own w e 1 ok A l c xs) (hn : l ≤ n) (hc : n ≤ c) :
    ∃ w', (Builtin.clear_ #[t] ty ⟨[.slice (slAddr A c l 1) (n - l) (c - l)]⟩).run P w = .ok (.tuple ⟨[]⟩) w' ∧ Own w' e 1 ok A l c xs ∧ Fr (ownAt A) w w' := by
  by_cases hz0 : n - l = 0
  · refine ⟨w, ?_, h, Fr.refl _ _⟩
    rw [hz0]
    cases slAddr A c l 1 <;> simp [Builtin.clear_, run_ul ht]
  · rcases h.2 with ⟨rfl, h2, h3⟩ | ⟨g, cur, rfl, hok, hg, hlc, hcm, hcs, htake⟩
    · omega
    · have hne : c ≠ l := by omega
      have hA : slAddr (some ⟨g, 0, none⟩) c l 1 = some ⟨g, 0 + l, none⟩ := by
        unfold slAddr; rw [if_neg hne, Nat.mul_one]
        simp only [Option.map_some, Addr.add]
        split <;> simp_all
      rw [hA]
      have hr := Lib.run_clear_slice (P := P) w t e ty z ht hz hzc h1 g (0 + l) (n - l) (c - l) (by omega)
        (fun j hj => by simp [World.cell?, hg]; omega) (fun j hj => h.free _)
      obtain ⟨h4, h5⟩ := own_setCells (List.replicate (n - l) z) (0 + l) (by omega) h
      exact ⟨_, hr, h4, h5⟩
end Go.Eng
