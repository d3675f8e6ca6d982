/- Walking a map of a call's own. -/
import Derived.Test.YtmhjjhpgbafjpaaDoorMapK
import Derived.Maps.Range
import Derived.Maps.RangeRun
set_option linter.unusedVariables false
namespace Go.Eng
open Go
def RangeAt (w : World) (P : Program) (k e : TypeId) (m r n : Nat) (f : Lit → Int) (cnt : Nat) : Prop :=
  ∃ (D : DataW Unit) (left : Lit → Bool), w.ranges P k (plainElem P e) m r n D left cnt ∧ Maps.IsMap D ∧ ∀ l, WideAt.IsKeyLit l → D.atKey l (.lit (.int .i64 0)) = .lit (.int .i64 (f l))
theorem RangeAt.map {w : World} {P : Program} {k e : TypeId} {m r n cnt : Nat} {f : Lit → Int} (h : RangeAt w P k e m r n f cnt) : MapAt w P k e m n f := by
  obtain ⟨D, left, h1, h2, h3⟩ := h
  exact ⟨D, h1.owns, h2, h3⟩
theorem MapAt.range {w : World} {P : Program} {t k e : TypeId} {m n : Nat} {f : Lit → Int} (h : MapAt w P k e m n f) (K : Maps.Keyed P k) (ht : P.underlying t = some (.map k e)) :
    ∃ w' cnt, (Instr.range t (.map (some m))).run P w = .ok (.pointer (some ⟨w.heap.size, 0, none⟩)) w' ∧ RangeAt w' P k e m w.heap.size n f cnt ∧ Fr none1 w w' := by
  obtain ⟨D, h1, h2, h3⟩ := h
  obtain ⟨w', hrun, hr, g, _⟩ := h1.range K ht
  exact ⟨w', _, hrun, ⟨D, _, hr, h2, h3⟩, ⟨g.os, g.tape, g.output, g.size, fun b hb _ => g.block b hb (by simp)⟩⟩
theorem RangeAt.next {w : World} {P : Program} {k e : TypeId} {m r n cnt : Nat} {f : Lit → Int} (h : RangeAt w P k e m r n f cnt) (K : Maps.Keyed P k) (he : P.underlying e = some (.int .i64)) (ty : TypeId) :
    ((Instr.next (.pointer (some ⟨r, 0, none⟩)) false ty).run P w = .ok (.tuple #[.bool false]) w) ∨
    ∃ key kl w' cnt', keyOf P k key = some kl ∧ WideAt.IsKeyLit kl ∧ (Instr.next (.pointer (some ⟨r, 0, none⟩)) false ty).run P w = .ok (.tuple #[.bool true, key, .int .i64 (f kl)]) w' ∧ RangeAt w' P k e m r n f cnt' ∧ cnt' < cnt ∧ Fr (fun b => b = r) w w' ∧
      (Instr.entry (.pointer (some ⟨r, 0, none⟩))).run P w' = .ok (.tuple #[key, .int .i64 (f kl)]) w' := by
  obtain ⟨D, left, h1, h2, h3⟩ := h
  rcases h1.next K ty with ⟨_, _, hrun⟩ | ⟨key, v, kl, y, w', cnt', hk, hl, hR, hat, hrun, hr, hc, g, hsz, hent⟩
  · exact .inl hrun
  · have hkl := K.key hk
    have hy := hat (.lit (.int .i64 0))
    rw [h3 kl hkl] at hy
    obtain ⟨a, rfl, hz, _⟩ := plainElem_int_inv he hR
    rw [hz] at hy
    simp at hy
    subst hy
    exact .inr ⟨key, kl, w', cnt', hk, hkl, hrun, ⟨D, _, hr, h2, h3⟩, hc, ⟨g.os, g.tape, g.output, g.size, fun b hb hne => g.block b hb (fun e => hne (by simpa using e))⟩, hent⟩
theorem RangeAt.ne {w : World} {P : Program} {k e : TypeId} {m r n cnt : Nat} {f : Lit → Int} (h : RangeAt w P k e m r n f cnt) : r ≠ m := by
  obtain ⟨D, left, h1, _⟩ := h; exact h1.ne
/-- The iterator's block is no block of cells. -/
theorem RangeAt.notTy {w : World} {P : Program} {k e : TypeId} {m r n cnt : Nat} {f : Lit → Int} (h : RangeAt w P k e m r n f cnt) (ts : List Nat) : ¬ hasTy w ts r := by
  obtain ⟨D, left, ⟨es, clock, since, seen, c0, _, _, _, _, hr, _⟩, _⟩ := h
  rintro ⟨cur, t, h1, _⟩
  rw [hr] at h1
  simp at h1
theorem RangeAt.fr {F : Nat → Prop} {w w' : World} {P : Program} {k e : TypeId} {m r n cnt : Nat} {f : Lit → Int} (h : RangeAt w P k e m r n f cnt) (hf : Fr F w w') (hm : ¬ F m) (hr : ¬ F r) : RangeAt w' P k e m r n f cnt := by
  obtain ⟨D, left, ⟨es, clock, since, seen, c0, hb, a1, a2, a3, hr', rest⟩, h2⟩ := h
  exact ⟨D, left, ⟨es, clock, since, seen, c0, (hf.block m (Array.getElem?_eq_some_iff.1 hb).1 hm).trans hb, a1, a2, a3, (hf.block r (Array.getElem?_eq_some_iff.1 hr').1 hr).trans hr', rest⟩, h2⟩
/-- A count for each int. -/
def intK (f : Int → Int) : Lit → Int := fun l => match l with
  | .int .i64 n => f n
  | _ => 0
theorem key_int {P : Program} {k : TypeId} (hk : P.underlying k = some (.int .i64)) {a : Int} (h : IntKind.i64.min ≤ a ∧ a ≤ IntKind.i64.max) : keyOf P k (.int .i64 a) = some (.int .i64 a) :=
  Maps.keyOf_int_mk hk (by simp [Lit.wf]; exact h)
theorem key_int_inv {P : Program} {k : TypeId} (hk : P.underlying k = some (.int .i64)) {v : Value} {kl : Lit} (h : keyOf P k v = some kl) : ∃ a, v = .int .i64 a ∧ kl = .int .i64 a := by
  unfold keyOf at h
  rw [hk] at h
  simp only [mapKey, hk] at h
  split at h <;> simp_all
end Go.Eng
namespace Go.Eng
theorem RangeAt.left_eq {w : World} {P : Program} {k e : TypeId} {m r n cnt : Nat} {f : Lit → Int} (h : RangeAt w P k e m r n f cnt) : w.rangeLeft m r = cnt := by
  obtain ⟨D, left, h1, _⟩ := h; exact h1.left_eq
end Go.Eng
