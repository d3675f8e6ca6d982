/- What a disk keeps of what was noted: for seats without the laws of journals. -/
import Derived.Test.YtmhjjhpgbafjpaaJnCtop
set_option linter.unusedVariables false
namespace Go.Proofs
open Go Go.Eng
theorem scan_frames {l : List Bs} (h : ∀ y ∈ l, y.length ≤ 1000) : scanB (frames l) = (l, (frames l).length) := by
  have := scanB_frames l [] h
  rw [List.append_nil, scanB_zero (xs := []) (by decide)] at this
  simpa using this
theorem frames_snoc (l : List Bs) (y : Bs) : frames (l ++ [y]) = frames l ++ framed y := by
  rw [frames_append]; simp [frames]
section
variable {K : Nat → Prop} {B : Nat} {w w' : World} {j d n : Nat} {D : Dsk}
theorem open0 (h : DkK K B w d ⟨[], 0, false, -1⟩) : Ret Try.prog 6 [.pointer (some ⟨d, 0, none⟩)] w fun v w' => ∃ (j : Nat) (A : Option Addr) (c : Nat), v = .tuple ⟨[.pointer (some ⟨j, 0, none⟩), .slice A 0 c, .int .i64 0]⟩ ∧ JnK K B w' j d ⟨[], 0, false, -1⟩ 0 ∧ Fr (offK K B) w w' := by
  have e0 : scanB ([] : Bs) = ([], 0) := scanB_zero (by decide)
  have eD : opD ⟨[], 0, false, -1⟩ = ⟨[], 0, false, -1⟩ := by unfold opD; rw [e0]; rfl
  refine (jopen_ok h ⟨rfl, rfl⟩ (by simp)).imp fun v w' ⟨j, hi, A, c, h1, _, h2, h3, _⟩ => ⟨j, A, c, ?_, ?_, h3⟩
  · rw [h1]; simp only [e0]; rfl
  · rw [eD] at h2
    simp only [e0] at h2
    exact h2.shrink fun _ h => .inl h
end
theorem frames_ge : ∀ l : List Bs, l.length ≤ (frames l).length
  | [] => by simp [frames]
  | y :: l => by
    have h := frames_ge l
    have e : frames (y :: l) = framed y ++ frames l := by simp [frames]
    rw [e, List.length_append, framed_length, List.length_cons]; omega
/-- How much of frames is there. -/
theorem whole {l : List Bs} {m : Nat} : ∀ N, N ≤ l.length → ∃ n, n ≤ N ∧ (frames (l.take n)).length ≤ m ∧ (n = N ∨ m < (frames (l.take (n + 1))).length)
  | 0, _ => ⟨0, Nat.le_refl _, by simp [frames], .inl rfl⟩
  | N + 1, h => by
    obtain ⟨n, h1, h2, h3⟩ := whole (l := l) (m := m) N (by omega)
    rcases h3 with h3 | h3
    · subst h3
      by_cases hm : (frames (l.take (n + 1))).length ≤ m
      · exact ⟨n + 1, Nat.le_refl _, hm, .inl rfl⟩
      · exact ⟨n, by omega, h2, .inr (by omega)⟩
    · exact ⟨n, by omega, h2, .inr h3⟩
theorem frames_mono_le {l : List Bs} {n m : Nat} (h : n ≤ m) : (frames (l.take n)).length ≤ (frames (l.take m)).length := by
  obtain ⟨u, hu⟩ := frames_mono (xss := l) h
  rw [hu, List.length_append]; omega
/-- What a crash leaves of what was noted. -/
theorem crash_found {l : List Bs} {sf : Nat} {D : Dsk} (hb : D.bs = frames l) (hs : ∀ y ∈ l, y.length ≤ 1000) (hsf : sf ≤ l.length) (hD : D.safe = (frames (l.take sf)).length) (N : Int) :
    ∃ n, sf ≤ n ∧ n ≤ l.length ∧ scanB (crD D N).bs = (l.take n, (frames (l.take n)).length) ∧ opD (crD D N) = ⟨frames (l.take n), (frames (l.take n)).length, false, -1⟩ := by
  have hm : D.safe + kept D N ≤ (frames l).length := by
    have h1 := frames_mono_le (l := l) hsf
    rw [List.take_length] at h1
    unfold kept
    rw [hb]; omega
  obtain ⟨n, h1, h2, h3⟩ := whole (l := l) (m := D.safe + kept D N) l.length (Nat.le_refl _)
  have hcs := cut_scan (xss := l) (N := l.length) (n := n) (k := D.safe + kept D N) (Nat.le_refl _) (by rw [List.take_length]; exact hs) h1 h2 (by rw [List.take_length]; exact hm) h3
  rw [List.take_length] at hcs
  have ebs : (crD D N).bs = (frames l).take (D.safe + kept D N) := by unfold crD; rw [hb]
  have hscan : scanB (crD D N).bs = (l.take n, (frames (l.take n)).length) := by rw [ebs]; exact hcs
  refine ⟨n, ?_, h1, hscan, ?_⟩
  · rcases h3 with h3 | h3
    · omega
    · by_cases h : sf ≤ n
      · exact h
      · have := frames_mono_le (l := l) (show n + 1 ≤ sf by omega)
        omega
  · have e : opD (crD D N) = ⟨(opD (crD D N)).bs, (opD (crD D N)).safe, false, -1⟩ := rfl
    obtain ⟨o1, o2⟩ := opD_bs (crD D N)
    rw [e, o1, o2, hscan]
theorem pw_dead {D : Dsk} (h : pwE D ≠ 0) : (pwD D).dead = true := by
  unfold pwE pwD at *
  split
  · rename_i hd; exact hd
  · rename_i hd
    rw [if_neg hd] at h
    split
    · rfl
    · rename_i hf; rw [if_neg hf] at h; exact absurd rfl h
theorem note_zero {D : Dsk} {xs : Bs} (h : ntE D xs = 0) : xs.length ≤ 1000 ∧ (ntD D xs).bs = D.bs ++ framed xs ∧ (ntD D xs).safe = D.safe := by
  unfold ntE at h
  split at h
  · rename_i hl
    refine ⟨hl, ?_⟩
    have e : ntD D xs = { pwD D with bs := D.bs ++ framed xs } := by unfold ntD apD; rw [if_pos hl, if_pos h]
    rw [e]
    exact ⟨rfl, (pw_bs D).2⟩
  · cases h
theorem note_bad {D : Dsk} {xs : Bs} (h : ¬ ntE D xs = 0) (hb : D.bs.length ≤ 1000000) : (ntE D xs = 4 ∧ 1000 < xs.length ∧ ntD D xs = D) ∨ (ntE D xs = 5 ∧ (ntD D xs).dead = true ∧ (ntD D xs).bs = D.bs ∧ (ntD D xs).safe = D.safe) := by
  by_cases hl : xs.length ≤ 1000
  · have e1 : ntE D xs = apE D (framed xs) := if_pos hl
    have e2 : ntD D xs = apD D (framed xs) := if_pos hl
    rw [e1] at h ⊢
    rw [e2]
    have hf := framed_length xs
    have hp : pwE D ≠ 0 := by
      intro hp
      apply h
      unfold apE
      rw [hp, if_neg (by simp), if_neg (by omega)]
    have e3 : apE D (framed xs) = 5 := by unfold apE; rw [if_pos hp]; exact pw5 hp
    have e4 : apD D (framed xs) = pwD D := if_neg h
    rw [e4]
    exact .inr ⟨e3, pw_dead hp, (pw_bs D).1, (pw_bs D).2⟩
  · exact .inl ⟨if_neg hl, by omega, if_neg hl⟩
end Go.Proofs
