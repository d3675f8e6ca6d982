/- Claims of the program: rows of ints, sets. -/
import Derived.Test.YtlmbbcmaellkoaaS08
import Derived.Test.YtlmbbcmaellkoaaHp7
import Derived.Test.YtlmbbcmaellkoaaOpn
import Derived.Test.YtlmbbcmaellkoaaBkM
set_option linter.unusedVariables false
namespace Go.Proofs
open Go Go.Eng
theorem int_at {w : World} {ok : Nat → Prop} {A : Option Addr} {l : List Int} (h : Rd w ok A (ints l)) {i : Nat} {x : Int} (hx : l[i]? = some x) : ∃ t, A = some t ∧ w.cell? (t.add (Int.toNat (i : Int) * 1)) = some (.int .i64 x) := by
  obtain ⟨a, ha, _, hc⟩ := h.at (ints_get hx)
  exact ⟨a, ha, by rw [Int.toNat_natCast, Nat.mul_one]; exact hc⟩
theorem nextI {i : Nat} (h : i ≤ 1000000) : IntKind.i64.wrap ((i : Int) + 1) = ((i + 1 : Nat) : Int) := by rw [IntWalk.i64_in _ (by omega)]; rfl
theorem take_snoc {α : Type} {l : List α} {i : Nat} {x : α} (h : l[i]? = some x) : l.take (i + 1) = l.take i ++ [x] := by rw [List.take_add_one, h]; rfl
section
variable {w : World} {ok ok2 : Nat → Prop} {A A2 : Option Addr} {l k : List Int}
theorem in_ok (h : Rd w ok A (ints l)) (hl : l.length ≤ 100000) (n : Int) (c : Nat) : Ret Try.prog 26 [.int .i64 n, .slice A l.length c] w fun v w' => v = .bool (l.contains n) ∧ w' = w := by
  apply S26_calls
  refine ⟨fun s w' => ∃ i : Nat, s.1 = (i : Int) ∧ i ≤ l.length ∧ n ∉ l.take i ∧ w' = w, fun s _ => l.length - s.1.toNat, ⟨0, rfl, Nat.zero_le _, by simp, rfl⟩, ?_⟩
  rintro J ⟨i', ⟨⟩⟩ w ⟨i, hi, hil, hno, rfl⟩
  dsimp only at hi ⊢
  subst hi
  refine cD (fun hlt => ?_) (fun hlt => ?_)
  · have hlt' : i < l.length := by have : (i : Int) < (l.length : Int) := hlt; omega
    have hx : l[i]? = some l[i] := List.getElem?_eq_getElem hlt'
    generalize l[i] = x at hx
    obtain ⟨t, ht, hc⟩ := int_at h hx
    refine ⟨t, ht, by omega, by omega, x, hc, cD (fun e => ?_) (fun e => ?_)⟩
    · subst e
      have : l.contains x = true := by simpa using List.mem_of_getElem? hx
      rw [this]; exact ⟨rfl, rfl⟩
    · rw [nextI (by omega)]
      refine ⟨⟨i + 1, rfl, by omega, ?_, rfl⟩, by dsimp only; omega⟩
      rw [take_snoc hx]
      simp only [List.mem_append, List.mem_singleton, not_or]
      exact ⟨hno, fun e2 => e e2.symm⟩
  · have hge : i = l.length := by have : ¬ (i : Int) < (l.length : Int) := hlt; omega
    rw [hge, List.take_length] at hno
    have : l.contains n = false := by simpa using hno
    rw [this]; exact ⟨rfl, rfl⟩
theorem index_ok (h : Rd w ok A (ints l)) (hl : l.length ≤ 100000) (n : Int) (c : Nat) : Ret Try.prog 34 [.slice A l.length c, .int .i64 n] w fun v w' => ∃ j : Int, v = .int .i64 j ∧ (0 ≤ j ↔ n ∈ l) ∧ w' = w := by
  apply S34_calls
  refine ⟨fun s w' => ∃ i : Nat, s.1 = (i : Int) ∧ i ≤ l.length ∧ n ∉ l.take i ∧ w' = w, fun s _ => l.length - s.1.toNat, ⟨0, rfl, Nat.zero_le _, by simp, rfl⟩, ?_⟩
  rintro J ⟨i', ⟨⟩⟩ w ⟨i, hi, hil, hno, rfl⟩
  dsimp only at hi ⊢
  subst hi
  refine cD (fun hlt => ?_) (fun hlt => ?_)
  · have hlt' : i < l.length := by have : (i : Int) < (l.length : Int) := hlt; omega
    have hx : l[i]? = some l[i] := List.getElem?_eq_getElem hlt'
    generalize l[i] = x at hx
    obtain ⟨t, ht, hc⟩ := int_at h hx
    refine ⟨t, ht, by omega, by omega, x, hc, cD (fun e => ?_) (fun e => ?_)⟩
    · subst e
      exact ⟨_, rfl, ⟨fun _ => List.mem_of_getElem? hx, fun _ => by omega⟩, rfl⟩
    · rw [nextI (by omega)]
      refine ⟨⟨i + 1, rfl, by omega, ?_, rfl⟩, by dsimp only; omega⟩
      rw [take_snoc hx]
      simp only [List.mem_append, List.mem_singleton, not_or]
      exact ⟨hno, e⟩
  · have hge : i = l.length := by have : ¬ (i : Int) < (l.length : Int) := hlt; omega
    rw [hge, List.take_length] at hno
    exact ⟨_, rfl, ⟨fun h => by omega, fun h => absurd h hno⟩, rfl⟩
theorem contains_ok (h : Rd w ok A (ints l)) (hl : l.length ≤ 100000) (n : Int) (c : Nat) : Ret Try.prog 30 [.slice A l.length c, .int .i64 n] w fun v w' => v = .bool (l.contains n) ∧ w' = w := by
  apply S30_calls
  refine (index_ok h hl n c).use ?_
  rintro v w ⟨j, rfl, hj, rfl⟩
  refine ⟨_, rfl, ?_, rfl⟩
  congr 1
  rw [Bool.eq_iff_iff, decide_eq_true_iff, hj]
  simp
theorem zones_ok (h : Rd w ok A (ints l)) (hl : l.length ≤ 100000) (c : Nat) : Ret Try.prog 25 [.slice A l.length c] w fun v w' => v = .bool (okZ l) ∧ w' = w := by
  apply S25_calls
  refine ⟨fun s w' => ∃ i : Nat, s.1 = (i : Int) ∧ i ≤ l.length ∧ okZ (l.take i) = true ∧ w' = w, fun s _ => l.length - s.1.toNat, ⟨0, rfl, Nat.zero_le _, rfl, rfl⟩, ?_⟩
  rintro J ⟨i', ⟨⟩⟩ w ⟨i, hi, hil, hno, rfl⟩
  dsimp only at hi ⊢
  subst hi
  refine cD (fun hlt => ?_) (fun hlt => ?_)
  · have hlt' : i < l.length := by have : (i : Int) < (l.length : Int) := hlt; omega
    have hx : l[i]? = some l[i] := List.getElem?_eq_getElem hlt'
    generalize l[i] = x at hx
    obtain ⟨t, ht, hc⟩ := int_at h hx
    have bad : ¬ (0 ≤ x ∧ x < 26) → (Value.bool false = .bool (okZ l) ∧ w = w) := fun hb => by
      have : okZ l = false := by
        rw [Bool.eq_false_iff]
        exact fun e => hb (okZ_iff.1 e x (List.mem_of_getElem? hx))
      rw [this]; exact ⟨rfl, rfl⟩
    refine ⟨t, ht, by omega, by omega, x, hc, cD (fun e => ?_) (fun e => ?_)⟩
    · exact bad (by omega)
    · refine ⟨t, ht, by omega, by omega, x, hc, cD (fun e2 => bad (by omega)) (fun e2 => ?_)⟩
      rw [nextI (by omega)]
      refine ⟨⟨i + 1, rfl, by omega, ?_, rfl⟩, by dsimp only; omega⟩
      rw [take_snoc hx, okZ_iff]
      intro z hz
      rcases List.mem_append.1 hz with hz | hz
      · exact okZ_iff.1 hno z hz
      · rw [List.mem_singleton] at hz; subst hz; omega
  · have hge : i = l.length := by have : ¬ (i : Int) < (l.length : Int) := hlt; omega
    rw [hge, List.take_length] at hno
    rw [hno]; exact ⟨rfl, rfl⟩
theorem of_ok (h : Rd w ok A (ints l)) (hl : l.length ≤ 100000) (c : Nat) : Ret Try.prog 29 [.slice A l.length c] w fun v w' => ∃ m : Nat, v = .tuple ⟨[.int .u32 (m : Int), .bool (okZ l)]⟩ ∧ (okZ l = true → Mask m l) ∧ w' = w := by
  apply S29_calls
  refine ⟨fun s w' => ∃ i m : Nat, s.1 = (m : Int) ∧ s.2.1 = (i : Int) ∧ i ≤ l.length ∧ okZ (l.take i) = true ∧ Mask m (l.take i) ∧ w' = w, fun s _ => l.length - s.2.1.toNat, ⟨0, 0, rfl, rfl, Nat.zero_le _, rfl, Mask.nil, rfl⟩, ?_⟩
  rintro J ⟨m', i', ⟨⟩⟩ w ⟨i, m, hm, hi, hil, hno, hmk, rfl⟩
  dsimp only at hm hi ⊢
  subst hm hi
  refine cD (fun hlt => ?_) (fun hlt => ?_)
  · have hlt' : i < l.length := by have : (i : Int) < (l.length : Int) := hlt; omega
    have hx : l[i]? = some l[i] := List.getElem?_eq_getElem hlt'
    generalize l[i] = x at hx
    obtain ⟨t, ht, hc⟩ := int_at h hx
    have bad : ¬ (0 ≤ x ∧ x < 26) → ∃ m : Nat, Value.tuple ⟨[.int .u32 0, .bool false]⟩ = .tuple ⟨[.int .u32 (m : Int), .bool (okZ l)]⟩ ∧ (okZ l = true → Mask m l) ∧ w = w := fun hb => by
      have : okZ l = false := by
        rw [Bool.eq_false_iff]
        exact fun e => hb (okZ_iff.1 e x (List.mem_of_getElem? hx))
      rw [this]; exact ⟨0, rfl, fun h => by (cases h), rfl⟩
    refine ⟨t, ht, by omega, by omega, x, hc, cD (fun e => bad (by omega)) (fun e => cD (fun e2 => bad (by omega)) (fun e2 => ?_))⟩
    refine ⟨by omega, ?_⟩
    have m1 := Mask.one (z := x) (by omega) (by omega)
    rw [shl32 (by omega) (by omega), or32 hmk.lt m1.lt, nextI (by omega)]
    refine ⟨⟨i + 1, _, rfl, rfl, by omega, ?_, by rw [take_snoc hx]; exact hmk.or m1, rfl⟩, by dsimp only; omega⟩
    rw [take_snoc hx, okZ_iff]
    intro z hz
    rcases List.mem_append.1 hz with hz | hz
    · exact okZ_iff.1 hno z hz
    · rw [List.mem_singleton] at hz; subst hz; omega
  · have hge : i = l.length := by have : ¬ (i : Int) < (l.length : Int) := hlt; omega
    rw [hge, List.take_length] at hno hmk
    rw [hno]; exact ⟨m, rfl, fun _ => hmk, rfl⟩
theorem meets_ok (h : Rd w ok A (ints l)) (h2 : Rd w ok2 A2 (ints k)) (hl : l.length ≤ 100000) (hk : k.length ≤ 100000) (c c2 : Nat) : Ret Try.prog 19 [.slice A l.length c, .slice A2 k.length c2] w fun v w' => v = .bool (!disj l k) ∧ w' = w := by
  apply S19_calls
  refine ⟨fun s w' => ∃ i : Nat, s.1 = (i : Int) ∧ i ≤ l.length ∧ (∀ z ∈ l.take i, z ∉ k) ∧ w' = w, fun s _ => l.length - s.1.toNat, ⟨0, rfl, Nat.zero_le _, by simp, rfl⟩, ?_⟩
  rintro J ⟨i', ⟨⟩⟩ w ⟨i, hi, hil, hno, rfl⟩
  dsimp only at hi ⊢
  subst hi
  refine cD (fun hlt => ?_) (fun hlt => ?_)
  · have hlt' : i < l.length := by have : (i : Int) < (l.length : Int) := hlt; omega
    have hx : l[i]? = some l[i] := List.getElem?_eq_getElem hlt'
    generalize l[i] = x at hx
    obtain ⟨t, ht, hc⟩ := int_at h hx
    refine ⟨t, ht, by omega, by omega, x, hc, ?_⟩
    refine ⟨fun s w' => ∃ j : Nat, s.1 = (j : Int) ∧ j ≤ k.length ∧ x ∉ k.take j ∧ w' = w, fun s _ => k.length - s.1.toNat, ⟨0, rfl, Nat.zero_le _, by simp, rfl⟩, ?_⟩
    rintro J ⟨j', ⟨⟩⟩ w ⟨j, hj, hjl, hnoj, rfl⟩
    dsimp only at hj ⊢
    subst hj
    refine cD (fun hlt2 => ?_) (fun hlt2 => ?_)
    · have hlt2' : j < k.length := by have : (j : Int) < (k.length : Int) := hlt2; omega
      have hy : k[j]? = some k[j] := List.getElem?_eq_getElem hlt2'
      generalize k[j] = y at hy
      obtain ⟨t2, ht2, hc2⟩ := int_at h2 hy
      refine ⟨t2, ht2, by omega, by omega, y, hc2, cD (fun e => ?_) (fun e => ?_)⟩
      · subst e
        have : disj l k = false := by
          rw [Bool.eq_false_iff]
          exact fun e => disj_iff.1 e x (List.mem_of_getElem? hx) (List.mem_of_getElem? hy)
        rw [this]; exact ⟨rfl, rfl⟩
      · rw [nextI (by omega)]
        refine ⟨⟨j + 1, rfl, by omega, ?_, rfl⟩, by dsimp only; omega⟩
        rw [take_snoc hy]
        simp only [List.mem_append, List.mem_singleton, not_or]
        exact ⟨hnoj, e⟩
    · have hge : j = k.length := by have : ¬ (j : Int) < (k.length : Int) := hlt2; omega
      rw [hge, List.take_length] at hnoj
      rw [nextI (by omega)]
      refine ⟨⟨i + 1, rfl, by omega, ?_, rfl⟩, by dsimp only; omega⟩
      rw [take_snoc hx]
      intro z hz
      rcases List.mem_append.1 hz with hz | hz
      · exact hno z hz
      · rw [List.mem_singleton] at hz; subst hz; exact hnoj
  · have hge : i = l.length := by have : ¬ (i : Int) < (l.length : Int) := hlt; omega
    rw [hge, List.take_length] at hno
    rw [disj_iff.2 hno]; exact ⟨rfl, rfl⟩
theorem same_ok (h : Rd w ok A (ints l)) (h2 : Rd w ok2 A2 (ints k)) (hl : l.length ≤ 100000) (c c2 : Nat) : Ret Try.prog 18 [.slice A l.length c, .slice A2 k.length c2] w fun v w' => v = .bool (decide (l = k)) ∧ Fr none1 w w' := by
  apply S18_calls
  refine cN (fun hne => ?_) (fun heq => ?_)
  · rw [decide_eq_false fun e => hne (by rw [e])]
    exact ⟨rfl, Fr.refl _ _⟩
  have hle : l.length = k.length := by omega
  refine ⟨fun s w' => ∃ i : Nat, s.1 = (i : Int) ∧ i ≤ l.length ∧ l.take i = k.take i ∧ Fr none1 w w', fun s _ => l.length - s.1.toNat, ⟨0, rfl, Nat.zero_le _, rfl, Fr.refl _ _⟩, ?_⟩
  rintro J ⟨i', ⟨⟩⟩ w1 ⟨i, hi, hil, hno, f1⟩
  dsimp only at hi ⊢
  subst hi
  refine cD (fun hlt => ?_) (fun hlt => ?_)
  · have hlt' : i < l.length := by have : (i : Int) < (l.length : Int) := hlt; omega
    have hx : l[i]? = some l[i] := List.getElem?_eq_getElem hlt'
    have hy : k[i]? = some k[i] := List.getElem?_eq_getElem (by omega)
    generalize l[i] = x at hx
    generalize k[i] = y at hy
    have f2 : Fr none1 w w1.drew := f1.trans' (Fr.drew w1)
    obtain ⟨t, ht, hc⟩ := int_at (h.fr f2 fun _ _ _ h => h) hx
    obtain ⟨t2, ht2, hc2⟩ := int_at (h2.fr f2 fun _ _ _ h => h) hy
    refine ⟨t, ht, by omega, by omega, x, hc, t2, ht2, by omega, by omega, y, hc2, ?_⟩
    by_cases e : x = y
    · subst e
      refine cF (by simp) ?_
      rw [nextI (by omega)]
      exact ⟨⟨i + 1, rfl, by omega, by rw [take_snoc hx, take_snoc hy, hno], f2⟩, by dsimp only; omega⟩
    · refine cT (by simp [e]) ?_
      rw [decide_eq_false fun e2 => e (by rw [e2, hy] at hx; exact (Option.some.inj hx).symm)]
      exact ⟨rfl, f2⟩
  · have hge : i = l.length := by have : ¬ (i : Int) < (l.length : Int) := hlt; omega
    rw [hge, List.take_length] at hno
    rw [hle, List.take_length] at hno
    rw [decide_eq_true hno]; exact ⟨rfl, f1⟩
end
end Go.Proofs
