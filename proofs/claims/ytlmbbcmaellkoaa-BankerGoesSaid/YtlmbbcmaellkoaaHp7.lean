/- append to a row whose capacity is its length: a new row. -/
import Derived.Test.YtlmbbcmaellkoaaHp6
set_option linter.unusedVariables false
namespace Go.Eng
open Go
theorem run_append_full {P : Program} {t ty e : TypeId} {sz bytes : Nat} (T : ElT P t e sz bytes) {w : World} {ok ok2 : Nat → Prop} {A A2 : Option Addr} {l m c2 : Nat} {xs news : List Value}
    (hl : xs.length = l * sz) (hx : Rd w ok A xs) (hn : news.length = m * sz) (hr : Rd w ok2 A2 news) (h1 : ∀ u ∈ news, u.oneCell' = true) (hm0 : 0 < m) (hb : (l + m) * bytes ≤ 140737488355328) (hm : l + m ≤ maxLen) :
    ∃ A' c' w', (Builtin.append_ #[t, t] ty ⟨[.slice A l l, .slice A2 m c2]⟩).run P w = .ok (.slice A' (l + m) c') w' ∧ Own w' e sz (fun k => w.heap.size ≤ k) A' (l + m) c' (xs ++ news) ∧ Fr none1 w w' := by
  obtain ⟨ht, ⟨i, z, hi, hz, hsz, hby, hzs⟩, hpos⟩ := T
  subst hsz; subst hby
  have hsmall : l + m ≤ 9223372036854775807 := by simp only [maxLen] at hm; omega
  have hlen : (xs ++ news).length = (l + m) * i.size := by rw [List.length_append, hl, hn, Nat.add_mul]
  have hne : news ≠ [] := fun h => by
    rw [h, List.length_nil] at hn
    have := Nat.mul_pos hm0 hpos
    omega
  obtain ⟨a2, rfl, hc2⟩ : ∃ a, A2 = some a ∧ ∀ j v, news[j]? = some v → w.cell? (a.add j) = some v := by
    rcases hr with h' | ⟨a, ha, _, hc⟩
    · exact absurd h' hne
    · exact ⟨a, ha, hc⟩
  have fresh : ∀ (old : Nat), old < l + m → Own (w.drew.alloc (.cells (xs.toArray ++ news.toArray ++ Builtin.zeroCells z.cells (grownCap w (l + m) old e - (l + m))) e)) e i.size (fun k => w.heap.size ≤ k)
      (some ⟨w.heap.size, 0, none⟩) (l + m) (grownCap w (l + m) old e) (xs ++ news) ∧ Fr none1 w (w.drew.alloc (.cells (xs.toArray ++ news.toArray ++ Builtin.zeroCells z.cells (grownCap w (l + m) old e - (l + m))) e)) := by
    intro old ho
    have hge := grownCap_ge w (l + m) old e
    have hcm : grownCap w (l + m) old e ≤ maxLen := grownCap_le_maxLen w (l + m) old e hm
    refine ⟨⟨hlen, .inr ⟨w.heap.size, _, rfl, Nat.le_refl _, heap_alloc_new w.drew _, hge, hcm, ?_, ?_⟩⟩, (Fr.drew w).trans' (Fr.alloc _ _)⟩
    · simp only [Array.size_append, List.size_toArray, size_zeroCells, hzs, hl, hn, ← Nat.add_mul]
      congr 1; omega
    · simp only [Array.toList_append, List.append_assoc]
      rw [← List.append_assoc, ← hlen]
      exact List.take_left
  cases A with
  | none =>
    have hx0 : xs = [] := by
      rcases hx with h | ⟨a, ha, _⟩
      · exact h
      · cases ha
    subst hx0
    have l0 : l = 0 := by
      rcases Nat.eq_zero_or_pos l with h | h
      · exact h
      · have := Nat.mul_pos h hpos; simp at hl; omega
    subst l0
    have hr := run_append_nil (P := P) w t ty e i z ht hi hz a2 m c2 news hn hc2 (by omega) (by omega) (by have hb := hb; simp only [Nat.zero_add] at hb; omega)
    have hgr := fresh 0 (by omega)
    simp only [Nat.zero_add, List.nil_append, Array.empty_append] at hgr ⊢
    exact ⟨_, _, _, hr, hgr.1, hgr.2⟩
  | some a =>
    have holds : ∀ j u, xs[j]? = some u → w.cell? (a.add j) = some u := by
      intro j u hu
      obtain ⟨a', h1, _, h3⟩ := hx.at hu
      cases h1; exact h3
    have hr := run_append_grow (P := P) w t ty e i z ht hi hz a l l xs hl holds a2 m c2 news hn hc2 (by omega) (by omega) (growslice_fits (by omega) hb)
    have hgr := fresh l (by omega)
    exact ⟨_, _, _, hr, hgr.1, hgr.2⟩
end Go.Eng
