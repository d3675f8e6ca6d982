/- Queues that age: the one that goes next. -/
import Derived.Test.YtkighcolplcnbaaAgK12
set_option linter.unusedVariables false
namespace Go.Proofs
open Go Go.Eng
/-- What is told of who goes next. -/
theorem next_told {Q : Que} (h : nxB Q = true) : ∃ x0 ∈ Q.ws, x0.id = nxI Q ∧ Q.ws.any (due Q.st) = due Q.st x0 ∧ (Q.ws.any (due Q.st) = false → ∀ y ∈ Q.ws, y.pr ≤ x0.pr) := by
  obtain ⟨m, x0, hpm, hxm, hid⟩ := nx_at h
  have hne : Q.ws ≠ [] := fun e => by rw [e] at hxm; simp at hxm
  obtain ⟨j, z, h1, h2, h3⟩ := pl_spec hne
  have hj : j = m := by omega
  subst hj
  rw [hxm] at h2
  cases h2
  have hmem := List.mem_of_getElem? hxm
  refine ⟨x0, hmem, hid.symm, ?_, fun hn => ?_⟩
  · rcases h3 with ⟨h3, _⟩ | ⟨h3, _⟩
    · rw [h3, List.any_eq_true]; exact ⟨x0, hmem, h3⟩
    · rw [h3 x0 hmem, List.any_eq_false]; intro y hy; rw [h3 y hy]; decide
  · rcases h3 with ⟨h3, _⟩ | ⟨_, h4, _⟩
    · rw [List.any_eq_false] at hn
      exact absurd h3 (hn x0 hmem)
    · exact h4
end Go.Proofs
