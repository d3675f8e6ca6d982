/- Queues that age: who goes next, without the program. -/
import Derived.Test.YtkighcolplcnbaaAgI12
set_option linter.unusedVariables false
namespace Go.Proofs
open Go Go.Eng
theorem bestN_spec (ws : List Wt) : ∀ n, 0 < n → bestN ws n < n ∧ (∀ k, k < n → prI ws k ≤ prI ws (bestN ws n)) ∧ ∀ k, k < bestN ws n → prI ws k < prI ws (bestN ws n)
  | 0, h => absurd h (Nat.lt_irrefl 0)
  | n + 1, _ => by
    rw [bestN_succ]
    by_cases hn : n = 0
    · subst hn
      have e : bestN ws 0 = 0 := rfl
      rw [e, if_neg (by omega)]
      exact ⟨by omega, fun k hk => by have h0 : k = 0 := (by omega); subst h0; exact Int.le_refl _, fun k hk => absurd hk (Nat.not_lt_zero k)⟩
    · obtain ⟨h1, h2, h3⟩ := bestN_spec ws n (by omega)
      split
      · rename_i hlt
        refine ⟨by omega, fun k hk => ?_, fun k hk => ?_⟩
        · by_cases e : k = n
          · subst e; exact Int.le_refl _
          · have := h2 k (by omega); omega
        · have := h2 k hk; omega
      · rename_i hge
        refine ⟨by omega, fun k hk => ?_, h3⟩
        by_cases e : k = n
        · subst e; omega
        · exact h2 k (by omega)
/-- Who goes next: the first that is due, or with none due the first of the highest priority. -/
theorem pl_spec {Q : Que} (h : Q.ws ≠ []) : ∃ (i : Nat) (x : Wt), pl Q = (i : Int) ∧ Q.ws[i]? = some x ∧
    ((due Q.st x = true ∧ ∀ (k : Nat) (y : Wt), k < i → Q.ws[k]? = some y → due Q.st y = false) ∨
     ((∀ y ∈ Q.ws, due Q.st y = false) ∧ (∀ y ∈ Q.ws, y.pr ≤ x.pr) ∧ ∀ (k : Nat) (y : Wt), k < i → Q.ws[k]? = some y → y.pr < x.pr)) := by
  have hpos : 0 < Q.ws.length := by
    rcases Nat.eq_zero_or_pos Q.ws.length with e | e
    · exact absurd (List.eq_nil_of_length_eq_zero e) h
    · exact e
  unfold pl
  rw [if_neg h]
  cases hf : Q.ws.findIdx? (due Q.st) with
  | some i =>
    rw [List.findIdx?_eq_some_iff_getElem] at hf
    obtain ⟨hi, h1, h2⟩ := hf
    refine ⟨i, Q.ws[i], rfl, List.getElem?_eq_getElem hi, .inl ⟨h1, fun k y hk hy => ?_⟩⟩
    obtain ⟨hkl, rfl⟩ := List.getElem?_eq_some_iff.1 hy
    have := h2 k hk
    simpa using this
  | none =>
    rw [List.findIdx?_eq_none_iff] at hf
    obtain ⟨b1, b2, b3⟩ := bestN_spec Q.ws Q.ws.length hpos
    have hx : Q.ws[bestN Q.ws Q.ws.length]? = some Q.ws[bestN Q.ws Q.ws.length] := List.getElem?_eq_getElem b1
    have ex := prI_at hx
    refine ⟨bestN Q.ws Q.ws.length, _, rfl, hx, .inr ⟨hf, fun y hy => ?_, fun k y hk hy => ?_⟩⟩
    · obtain ⟨k, hk, rfl⟩ := List.mem_iff_getElem.1 hy
      have := b2 k hk
      rwa [prI_at (List.getElem?_eq_getElem hk), ex] at this
    · have := b3 k hk
      rwa [prI_at hy, ex] at this
/-- Who came first was bypassed no less often. -/
def Falls (ws : List Wt) : Prop := ws.Pairwise fun x y => y.bp ≤ x.bp
theorem falls_bump {ws : List Wt} (h : Falls ws) (m : Nat) : Falls (bump ws m) := by
  unfold Falls at h ⊢
  unfold bump
  rw [← List.take_append_drop m ws, List.pairwise_append] at h
  obtain ⟨h1, h2, h3⟩ := h
  refine List.pairwise_append.2 ⟨List.pairwise_map.2 (h1.imp fun hab => by show _ + 1 ≤ _ + 1; omega), h2, fun x hx y hy => ?_⟩
  obtain ⟨z, hz, rfl⟩ := List.mem_map.1 hx
  have := h3 z hz y hy
  show y.bp ≤ z.bp + 1
  omega
theorem falls_do {Q : Que} (h : Falls Q.ws) (hk : ∀ x ∈ Q.ws, 0 ≤ x.bp) (x : Act) : Falls (doQ Q x).ws := by
  unfold doQ
  split
  · unfold adQ
    split
    · exact List.pairwise_append.2 ⟨h, List.pairwise_singleton _ _, fun y hy z hz => by rw [List.mem_singleton] at hz; subst hz; exact hk y hy⟩
    · exact h
  · split
    · unfold tkQ
      split
      · exact (falls_bump h _).sublist (List.eraseIdx_sublist _ _)
      · exact h
    · unfold drQ
      split
      · exact h.sublist (List.eraseIdx_sublist _ _)
      · exact h
/-- Of those with like priority the one that came first goes first. -/
theorem like_first {Q : Que} (hR : Rise Q) (hF : Falls Q.ws) {i : Nat} {x y : Wt} (hp : pl Q = (i : Int)) (hx : Q.ws[i]? = some x) (hy : y ∈ Q.ws) (hpr : y.pr = x.pr) : ¬ y.id < x.id := by
  intro hlt
  obtain ⟨k, hk, rfl⟩ := List.mem_iff_getElem.1 hy
  have hyk : Q.ws[k]? = some Q.ws[k] := List.getElem?_eq_getElem hk
  obtain ⟨hi, hxe⟩ := List.getElem?_eq_some_iff.1 hx
  have hki : k < i := by
    rcases Nat.lt_trichotomy k i with h | h | h
    · exact h
    · subst h; rw [hxe] at hlt; omega
    · have := List.pairwise_iff_getElem.1 hR.1 i k hi hk h
      rw [hxe] at this; omega
  have hb := List.pairwise_iff_getElem.1 hF k i hk hi hki
  rw [hxe] at hb
  have hne : Q.ws ≠ [] := fun e => by rw [e] at hx; simp at hx
  obtain ⟨j, z, h1, h2, h3⟩ := pl_spec hne
  have hji : j = i := by omega
  subst hji
  rw [hx] at h2
  cases h2
  rcases h3 with ⟨h3, h4⟩ | ⟨_, _, h4⟩
  · have h5 := h4 k _ hki hyk
    have h6 := of_decide_eq_true h3
    have h7 := of_decide_eq_false h5
    rw [hpr] at h7
    omega
  · have := h4 k _ hki hyk
    omega
end Go.Proofs
