/- Own maps from ints to own rows of structs. -/
import Derived.Test.YtmhjjhpgbafjpaaDoorMapX
import Derived.Test.YtmhjjhpgbafjpaaDoorHp5
set_option linter.unusedVariables false
namespace Go.Eng
open Go
def updF {α : Type} (f : Int → List α) (a : Int) (ys : List α) : Int → List α := fun i => if i = a then ys else f i
theorem updF_same {α : Type} (f : Int → List α) (a : Int) (ys : List α) : updF f a ys a = ys := if_pos rfl
theorem updF_other {α : Type} (f : Int → List α) {a i : Int} (ys : List α) (h : i ≠ a) : updF f a ys i = f i := if_neg h
section
variable {α : Type} {enc : α → List Value} {w : World} {P : Program} {t kt st et : TypeId} {sz m n : Nat} {ok : Nat → Prop} {cof : Nat → Int} {f : Int → List α}
def MR (enc : α → List Value) (w : World) (P : Program) (kt et : TypeId) (sz m n : Nat) (ok : Nat → Prop) (cof : Nat → Int) (f : Int → List α) : Prop :=
  ok m ∧ ∃ c g, IM w P kt m n c g ∧ ∀ i, ∃ A cp, (g i).getD (.slice none 0 0) = .slice A (f i).length cp ∧ Own w et sz (fun k => ok k ∧ k ≠ m ∧ cof k = i) A (f i).length cp (rws enc (f i))
theorem MR.made (enc : α → List Value) (w : World) (P : Program) (kt et : TypeId) (sz : Nat) (ok : Nat → Prop) (h : ok w.heap.size) : MR enc (w.alloc (.map #[] 0)) P kt et sz w.heap.size 0 ok (fun _ => 0) (fun _ => []) :=
  ⟨h, 0, _, IM.made w P kt, fun i => ⟨none, 0, rfl, Own.nil _ _ _ _⟩⟩
theorem MR.lt (h : MR enc w P kt et sz m n ok cof f) : m < w.heap.size := by
  obtain ⟨_, c, g, h1, _⟩ := h; exact h1.lt
theorem MR.fr {F : Nat → Prop} {w' : World} (h : MR enc w P kt et sz m n ok cof f) (hf : Fr F w w') (hd : ∀ k, k < w.heap.size → ok k → ¬ F k) : MR enc w' P kt et sz m n ok cof f := by
  obtain ⟨h0, c, g, h1, h2⟩ := h
  refine ⟨h0, c, g, h1.fr hf (hd m h1.lt h0), fun i => ?_⟩
  obtain ⟨A, cp, h3, h4⟩ := h2 i
  exact ⟨A, cp, h3, h4.fr hf fun k hk h => hd k hk h.1⟩
theorem MR.mono {ok' : Nat → Prop} (h : MR enc w P kt et sz m n ok cof f) (hk : ∀ k, k < w.heap.size → ok k → ok' k) : MR enc w P kt et sz m n ok' cof f := by
  obtain ⟨h0, c, g, h1, h2⟩ := h
  refine ⟨hk m h1.lt h0, c, g, h1, fun i => ?_⟩
  obtain ⟨A, cp, h3, h4⟩ := h2 i
  exact ⟨A, cp, h3, h4.mono fun k hk' h => ⟨hk k hk' h.1, h.2⟩⟩
theorem MR.look (h : MR enc w P kt et sz m n ok cof f) (hk : P.underlying kt = some (.int .i64)) (ht : P.underlying t = some (.map kt st)) (hz : (zeroValue st).run P w = .ok (.slice none 0 0) w) {a : Int} (ha : IntKind.i64.min ≤ a ∧ a ≤ IntKind.i64.max) :
    ∃ A cp, (Instr.lookup t (.map (some m)) (.int .i64 a) false).run P w = .ok (.slice A (f a).length cp) w ∧ Own w et sz (fun k => ok k ∧ k ≠ m ∧ cof k = a) A (f a).length cp (rws enc (f a)) := by
  obtain ⟨h0, c, g, h1, h2⟩ := h
  obtain ⟨A, cp, h3, h4⟩ := h2 a
  exact ⟨A, cp, by rw [h1.lookup hk ht hz ha, h3], h4⟩
theorem MR.put (h : MR enc w P kt et sz m n ok cof f) (hk : P.underlying kt = some (.int .i64)) (ht : P.underlying t = some (.map kt st)) (hn : n < maxLen) {a : Int} (ha : IntKind.i64.min ≤ a ∧ a ≤ IntKind.i64.max) {w1 : World} {F : Nat → Prop} (hf : Fr F w w1)
    (hF : ∀ k, k < w.heap.size → F k → ok k ∧ k ≠ m ∧ cof k = a) {ys : List α} {A' : Option Addr} {cp' : Nat} (ho : Own w1 et sz (fun k => (ok k ∧ k ≠ m ∧ cof k = a) ∨ w.heap.size ≤ k) A' ys.length cp' (rws enc ys)) :
    ∃ w2, (Instr.mapUpdate t (.map (some m)) (.int .i64 a) (.slice A' ys.length cp')).run P w1 = .ok () w2 ∧ MR enc w2 P kt et sz m (n + 1) (fun k => ok k ∨ w.heap.size ≤ k) (fun k => if k < w.heap.size then cof k else a) (updF f a ys) ∧ Fr (fun k => F k ∨ k = m) w w2 := by
  obtain ⟨h0, c, g, h1, h2⟩ := h
  have hm := h1.lt
  have hs := hf.size
  obtain ⟨w2, r2, i2, f2⟩ := (h1.fr hf fun e => (hF m hm e).2.1 rfl).update hk ht hn ha (.slice A' ys.length cp')
  refine ⟨w2, r2, ⟨.inl h0, _, _, i2, fun i => ?_⟩, (hf.mono fun k _ h => .inl h).trans f2 fun k hk e => .inr e⟩
  · by_cases e : i = a
    · subst e
      rw [updI_same, updF_same]
      refine ⟨A', cp', rfl, (ho.fr f2 fun k hk h e => ?_).mono fun k hk h => ?_⟩
      · have e : k = m := e
        rcases h with h | h
        · exact h.2.1 e
        · omega
      · rcases h with h | h
        · refine ⟨.inl h.1, h.2.1, ?_⟩
          show (if k < w.heap.size then cof k else i) = i
          split
          · exact h.2.2
          · rfl
        · refine ⟨.inr h, by omega, ?_⟩
          show (if k < w.heap.size then cof k else i) = i
          rw [if_neg (by omega)]
    · rw [updI_other _ e, updF_other _ _ e]
      obtain ⟨A, cp, h3, h4⟩ := h2 i
      have h5 := h4.mono (ok' := fun k => (ok k ∧ k ≠ m ∧ cof k = i) ∧ k < w.heap.size) fun k hk h => ⟨h, hk⟩
      have h6 := h5.fr hf fun k hk h e' => e (h.1.2.2.symm.trans (hF k hk e').2.2)
      have h7 := h6.fr f2 fun k hk h e' => h.1.2.1 e'
      refine ⟨A, cp, h3, h7.mono fun k hk h => ⟨.inl h.1.1, h.1.2.1, ?_⟩⟩
      show (if k < w.heap.size then cof k else a) = i
      rw [if_pos h.2]; exact h.1.2.2
end
end Go.Eng
