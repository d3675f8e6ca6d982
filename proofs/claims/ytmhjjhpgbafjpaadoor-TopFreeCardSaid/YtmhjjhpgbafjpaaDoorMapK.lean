/- Maps of a call's own whose elements are ints: what is looked up, what is laid. -/
import Derived.Test.YtmhjjhpgbafjpaaDoorHp3
import Derived.Maps.Own
import Derived.Maps.OwnSet
import Derived.Maps.Views
set_option linter.unusedVariables false
namespace Go.Eng
open Go
def MapAt (w : World) (P : Program) (k e : TypeId) (m n : Nat) (f : Lit → Int) : Prop :=
  ∃ D : DataW Unit, w.ownsMap P k (plainElem P e) m n D ∧ Maps.IsMap D ∧ ∀ l, WideAt.IsKeyLit l → D.atKey l (.lit (.int .i64 0)) = .lit (.int .i64 (f l))
theorem MapAt.made (w : World) (P : Program) (k e : TypeId) : MapAt (w.alloc (.map #[] 0)) P k e w.heap.size 0 (fun _ => 0) :=
  ⟨.map [], World.ownsMap_made w P k _, Maps.tidy_empty.isMap, fun l _ => rfl⟩
theorem MapAt.lt {w : World} {P : Program} {k e : TypeId} {m n : Nat} {f : Lit → Int} (h : MapAt w P k e m n f) : m < w.heap.size := by
  obtain ⟨D, h1, _⟩ := h; exact h1.lt
theorem MapAt.fr {F : Nat → Prop} {w w' : World} {P : Program} {k e : TypeId} {m n : Nat} {f : Lit → Int} (h : MapAt w P k e m n f) (hf : Fr F w w') (hm : ¬ F m) : MapAt w' P k e m n f := by
  obtain ⟨D, ⟨es, clock, hb, F', hs, hD⟩, h2, h3⟩ := h
  exact ⟨D, ⟨es, clock, (hf.block m (Array.getElem?_eq_some_iff.1 hb).1 hm).trans hb, F', hs, hD⟩, h2, h3⟩
theorem MapAt.notTy {w : World} {P : Program} {k e : TypeId} {m n : Nat} {f : Lit → Int} (h : MapAt w P k e m n f) (ts : List Nat) : ¬ hasTy w ts m := by
  obtain ⟨D, ⟨es, clock, hb, _⟩, _⟩ := h
  rintro ⟨cur, t, h1, _⟩
  rw [hb] at h1
  simp at h1
theorem MapAt.lookup {w : World} {P : Program} {t k e : TypeId} {m n : Nat} {f : Lit → Int} (h : MapAt w P k e m n f) (K : Maps.Keyed P k) (ht : P.underlying t = some (.map k e)) (he : P.underlying e = some (.int .i64)) (hz : ∀ w, (zeroValue e).run P w = .ok (.int .i64 0) w)
    {key : Value} {kl : Lit} (hkey : keyOf P k key = some kl) (hl : WideAt.IsKeyLit kl) : (Instr.lookup t (.map (some m)) key false).run P w = .ok (.int .i64 (f kl)) w := by
  obtain ⟨D, h1, h2, h3⟩ := h
  obtain ⟨c, hrun, hat, _⟩ := h1.lookup_int K ht he (hz w) hkey
  rw [h3 kl hl] at hat
  simp at hat
  rw [hrun, hat]
theorem MapAt.update {w : World} {P : Program} {t k e : TypeId} {m n : Nat} {f f' : Lit → Int} (h : MapAt w P k e m n f) (K : Maps.Keyed P k) (ht : P.underlying t = some (.map k e)) (he : P.underlying e = some (.int .i64)) (hn : n < maxLen)
    {key : Value} {kl : Lit} {v : Int} (hkey : keyOf P k key = some kl) (hl : WideAt.IsKeyLit kl) (hv : (Lit.int .i64 v).wf = true) (h1 : f' kl = v) (h2 : ∀ l, l ≠ kl → f' l = f l) :
    ∃ w', (Instr.mapUpdate t (.map (some m)) key (.int .i64 v)).run P w = .ok () w' ∧ MapAt w' P k e m (n + 1) f' ∧ Fr (fun b => b = m) w w' := by
  obtain ⟨D, o1, o2, o3⟩ := h
  obtain ⟨w', hrun, o4, g⟩ := o1.update K ht hn hkey (plainElem_int he hv)
  refine ⟨w', hrun, ⟨_, o4, ?_, fun l hl' => ?_⟩, ⟨g.os, g.tape, g.output, g.size, fun b hb hne => g.block b hb (fun e => hne (by simpa using e))⟩⟩
  · obtain ⟨es, rfl⟩ := o2
    exact ⟨_, rfl⟩
  · by_cases e : l = kl
    · subst e
      rw [Maps.atKey_put_same o2 hl, h1]
    · rw [Maps.atKey_put_other e, o3 l hl', h2 l e]
/-- A count for each text. -/
def strK (f : List UInt8 → Int) : Lit → Int := fun l => match l with
  | .string xs => f xs
  | _ => 0
theorem key_str {P : Program} {k : TypeId} (hk : P.underlying k = some .string) {xs : List UInt8} (h : xs.length ≤ maxLen) : keyOf P k (.string (str xs)) = some (.string xs) := by
  rw [keyOf_string hk]
  have : (str xs).size ≤ maxLen := by simpa [str, ByteArray.size] using h
  simp [mapKey, hk, this]
  simp [str]
end Go.Eng
