import Derived.Test.YtmhjjhpgbafjpaaDoorEng6
set_option linter.unusedVariables false
namespace Go.Eng
open Go
section
variable {P : Program} {C : Cf} {ops : Array Oper} {n : Nat}
/-- The post of a region's walk: it ends plainly, in a state of which K holds. -/
def RegQ (n : Nat) (K : Env → World → Prop) (e : Exit) (a : Act) (w : World) : Prop := match e with
  | .normal => ∃ ρ, At n a ρ ∧ K ρ w
  | _ => False
theorem yielded_of {a : Act} {ρ : Env} (ha : At n a ρ) {j d : Nat} (hd : (ops[j]?).bind (·.dst) = some d) :
    (∀ b, ρ d = .bool b → yielded ops a.tmps j = some b) ∧ (∀ vs, ρ d = .tuple vs → yielded ops a.tmps j = none) := by
  have hg := ha.get d
  constructor
  · intro b hb
    rw [hb] at hg
    have : a.tmps[d]? = some (.bool b) := by
      rw [Array.getD_eq_getD_getElem?] at hg
      cases ht : a.tmps[d]? with
      | none => rw [ht] at hg; simp [undef] at hg
      | some v => rw [ht] at hg; simp at hg; rw [hg]
    simp [yielded, hd, this]
  · intro vs hb
    rw [hb] at hg
    rw [Array.getD_eq_getD_getElem?] at hg
    cases ht : a.tmps[d]? with
    | none => simp [yielded, hd, ht]
    | some v => rw [ht] at hg; simp at hg; simp [yielded, hd, ht, hg]
/-- A guard's meaning: the operation is wanted and Ky holds, or it is not and Kn does; in an environment that is the one at hand. -/
theorem guardR_out {o : Oper} {a : Act} {ρ : Env} (ha : At n a ρ) {Ky Kn : Env → Prop} (h : guardR ops o.guard ρ Ky Kn) :
    (Region.wanted o (yielded ops a.tmps) = true ∧ Ky ρ) ∨ (Region.wanted o (yielded ops a.tmps) = false ∧ Kn ρ) := by
  unfold guardR at h
  split at h
  · rename_i hg
    exact .inl ⟨by simp [Region.wanted, hg], h⟩
  · rename_i j want hg
    split at h
    · rename_i d hd
      obtain ⟨y1, y2⟩ := yielded_of ha hd
      split at h
      · rename_i b hb
        have hw : Region.wanted o (yielded ops a.tmps) = (b == want) := by simp [Region.wanted, hg, y1 b hb]
        rw [hw]
        cases b <;> cases want <;> simp only [cond_true, cond_false] at h <;> rw [← hb, up_self] at h <;> simp [h]
      · rename_i vs hb
        exact .inr ⟨by simp [Region.wanted, hg, y2 vs hb], h⟩
      · exact h.elim
    · exact h.elim

theorem upo_ne {ρ : Env} {d : Option Tmp} {i : Nat} (v : Value) (h : d ≠ some i) : upo ρ d v i = ρ i := by
  cases d with
  | none => rfl
  | some d => exact up_ne _ _ (fun e => h (by rw [e]))
theorem cell_heap {w w' : World} (h : Ext w.heap w'.heap) {a : Addr} {v : Value} (hc : w.cell? a = some v) : w'.cell? a = some v := by
  have := h.2 a.block (World.block_lt_of_cell? w a hc)
  rw [← hc]; simp only [World.cell?, this]
theorem loadCells_heap {w : World} {a : Addr} : ∀ (ks : List Kd) (j : Nat) {K : List Value → Prop}, ldC w a j ks K →
    ∃ vs, (∀ w', Ext w.heap w'.heap → ∀ acc : Array Value, (loadCellsFrom a j ks.length acc).run P w' = .ok ⟨acc.toList ++ vs⟩ w') ∧ K vs
  | [], j, K, h => ⟨[], fun w' _ acc => by simp [loadCellsFrom], h⟩
  | k :: ks, j, K, h => by
    obtain ⟨v, hc, h⟩ := exK_out h
    obtain ⟨vs, hr, hk⟩ := loadCells_heap ks (j + 1) h
    refine ⟨v :: vs, fun w' hw acc => ?_, hk⟩
    simp only [List.length_cons, loadCellsFrom, Sem.run_bind, run_load, cell_heap hw hc, Result.andThen_ok, hr w' hw]
    simp
theorem ldAgg_heap {w : World} {t : TypeId} {a : Addr} {K : Value → Prop} (h : ldAgg P t w a K) (hagg : ∀ w, (isAgg t).run P w = .ok true w) :
    ∃ v, (∀ w', Ext w.heap w'.heap → (loadVar t a).run P w' = .ok v w') ∧ K v := by
  obtain ⟨i, hi, h⟩ := szR_out h
  split at h
  · rename_i hb
    have hb := Nat.eq_of_beq_eq_true hb
    obtain ⟨vs, hr, hk⟩ := loadCells_heap (P := P) _ 0 h
    refine ⟨_, fun w' hw => ?_, hk⟩
    simp only [loadVar, Sem.run_bind, hagg, Result.andThen_ok, if_true, run_sizeOf hi, loadCells, hb, hr w' hw]
    simp
  · exact h.elim
theorem loadR_heap {w : World} {t : TypeId} {ad : Value} {K : Value → Prop} (h : loadR P t ad w K) : ∃ v, (∀ w', Ext w.heap w'.heap → (Instr.loadAt t ad).run P w' = .ok v w') ∧ K v := by
  unfold loadR at h
  split at h
  · rename_i a
    split at h
    · rename_i fs ht
      obtain ⟨v, hv, hk⟩ := ldAgg_heap h (run_isAgg_s ht)
      exact ⟨v, fun w' hw => by simp [Instr.loadAt, Instr.sureAddr, hv w' hw], hk⟩
    · rename_i n e ht
      obtain ⟨v, hv, hk⟩ := ldAgg_heap h (run_isAgg_a ht)
      exact ⟨v, fun w' hw => by simp [Instr.loadAt, Instr.sureAddr, hv w' hw], hk⟩
    · rename_i d h1 h2 hd
      obtain ⟨v, hc, hk⟩ := exK_out h
      exact ⟨v, fun w' hw => by simp [Instr.loadAt, Instr.sureAddr, loadVar, run_isAgg_o hd h1 h2, cell_heap hw hc], hk⟩
    · exact h.elim
  · exact h.elim
theorem opsOk_out (h : opsOk n ops = true) {o : Oper} (ho : o ∈ ops) : ∀ t, o.dst = some t → t < n := by
  intro t ht
  have := Array.all_eq_true_iff_forall_mem.1 h o ho
  rw [ht] at this
  simpa using this
theorem opG_wp (hC : ∀ f, C.call f = true → callable P f = true) {o : Oper} (hd : ∀ t, o.dst = some t → t < n) {a : Act} {ρ : Env} {w : World} (ha : At n a ρ)
    {K : Env → World → Prop} (h : opG P C ops o ρ w K) {next : Act → World → Prop} {Q : Exit → Act → World → Prop}
    (hk : ∀ a' ρ' w', At n a' ρ' → K ρ' w' → (∀ i, o.dst ≠ some i → ρ' i = ρ i) → next a' w') :
    if Region.wanted o (yielded ops a.tmps) then o.wp P a w next Q else next (a.put o.dst undef) w := by
  have same : ∀ v i, o.dst ≠ some i → upo ρ o.dst v i = ρ i := fun v i hi => upo_ne v hi
  rcases guardR_out ha h with ⟨hw, h⟩ | ⟨hw, h⟩
  · rw [if_pos hw]
    exact (opR_does hC h).wp ha fun v w' hv => hk _ _ _ (ha.put hd v) hv (same v)
  · rw [if_neg (by rw [hw]; simp)]
    exact hk _ _ _ (ha.put hd undef) h (same undef)
theorem regL_sound (hC : ∀ f, C.call f = true → callable P f = true) : ∀ (l : List Oper), (∀ o ∈ l, ∀ t, o.dst = some t → t < n) → ∀ (ρ : Env) (w : World) (K : Env → World → Prop), regL P C ops l ρ w K →
    ∀ a, At n a ρ → wpList P ops (RegQ n fun ρ' w' => K ρ' w' ∧ ∀ i, opsWr l i = false → ρ' i = ρ i) l a w
  | [], _, ρ, w, K, h, a, ha => ⟨ρ, ha, h, fun _ _ => rfl⟩
  | o :: rest, hok, ρ, w, K, h, a, ha => by
    unfold regL at h
    refine wpList_step fun K' hK' => ?_
    refine opG_wp hC (hok o (by simp)) ha h fun a' ρ' w' ha' h' hs => hK' _ _ ?_
    have := regL_sound hC rest (fun o ho => hok o (by simp [ho])) ρ' w' K h' a' ha'
    have mono : ∀ (l : List Oper) (a : Act) (w : World) (Q Q' : Exit → Act → World → Prop), (∀ e a w, Q e a w → Q' e a w) → wpList P ops Q l a w → wpList P ops Q' l a w := by
      intro l
      induction l with
      | nil => intro a w Q Q' hq h; exact hq _ _ _ h
      | cons o l ih =>
        intro a w Q Q' hq h
        unfold wpList at h ⊢
        split
        · rename_i hw
          rw [if_pos hw] at h
          rcases h with h | ⟨h1, a0, w0, h2⟩
          · refine .inl ?_
            unfold Oper.wp at *
            generalize (execOp a.eval o).run P w = r at *
            cases r with
            | ok nx w' =>
              cases nx <;> simp only [Oper.upon] at h ⊢ <;>
                first
                  | exact ih _ _ _ _ hq h
                  | exact Calls.mono h (fun e w'' he => by
                      cases e
                      · exact ih _ _ _ _ hq he
                      · exact hq _ _ _ he
                      · obtain ⟨a1, w1, h1⟩ := he; exact ⟨a1, w1, hq _ _ _ h1⟩)
                  | exact Rows.mono h (fun _ _ he => ih _ _ _ _ hq he)
            | halt x w' => cases x <;> simp only [Oper.upon] at h ⊢; exact hq _ _ _ h
          · exact .inr ⟨h1, a0, w0, hq _ _ _ h2⟩
        · rename_i hw
          rw [if_neg hw] at h
          exact ih _ _ _ _ hq h
    refine mono _ _ _ _ _ (fun e a w hq => ?_) this
    cases e <;> simp only [RegQ] at hq ⊢
    obtain ⟨ρ2, h1, h2, h3⟩ := hq
    refine ⟨ρ2, h1, h2, fun i hi => ?_⟩
    simp only [opsWr, List.any_cons, Bool.or_eq_false_iff] at hi
    rw [h3 i hi.2]
    refine hs i fun e => ?_
    have := hi.1
    rw [e] at this
    simp at this
theorem andR_mem {f : Nat → Prop} : ∀ {l : List Nat}, andR f l → ∀ i ∈ l, f i
  | [i], h, j, hj => by simp at hj; subst hj; exact h
  | i :: k :: l, h, j, hj => by
    rcases List.mem_cons.1 hj with rfl | hj
    · exact h.1
    · exact andR_mem h.2 j hj
theorem pickI_out {listed : Array Bool} : ∀ {l : List Nat} {i : Nat}, pickI P ops listed l = some i → i ∈ l ∧ takeable P ops listed i = true
  | [], i, h => by cases h
  | k :: l, i, h => by
    unfold pickI at h
    split at h
    · cases h; exact ⟨by simp, ‹_›⟩
    · obtain ⟨h1, h2⟩ := pickI_out h; exact ⟨by simp [h1], h2⟩
theorem RegQ_panic {K : Env → World → Prop} : ∀ c a w, ¬ RegQ n K (.panic c) a w := fun _ _ _ h => h
theorem RegQ_out {K : Env → World → Prop} : ∀ a w, ¬ RegQ n K .outgrown a w := fun _ _ h => h
theorem anyR_sound (hC : ∀ f, C.call f = true → callable P f = true) (hok : opsOk n ops = true) (hsel : Region.noSelect ops = true) : ∀ (fuel : Nat) (listed : Array Bool) (ρ : Env) (w : World) (K : Env → World → Prop),
    anyR P C ops fuel listed ρ w K → ∀ a, At n a ρ → wpAny P .any ops (RegQ n fun ρ' w' => K ρ' w' ∧ ∀ i, opsWr ops.toList i = false → ρ' i = ρ i) fuel listed a w := by
  have wr : ∀ {i : Nat} {o : Oper} {j : Nat}, ops[i]? = some o → opsWr ops.toList j = false → o.dst ≠ some j := by
    intro i o j ho hj e
    have hm : o ∈ ops.toList := Array.mem_toList_iff.2 (Array.mem_of_getElem? ho)
    have : opsWr ops.toList j = true := List.any_eq_true.2 ⟨o, hm, by rw [e]; simp⟩
    rw [hj] at this; cases this
  have weak : ∀ {K K' : Env → World → Prop} (fuel : Nat) (listed : Array Bool) (a : Act) (w : World), (∀ ρ w, K ρ w → K' ρ w) → wpAny P .any ops (RegQ n K) fuel listed a w → wpAny P .any ops (RegQ n K') fuel listed a w := by
    intro K K' fuel
    have hq : ∀ {e a w}, (∀ ρ w, K ρ w → K' ρ w) → RegQ n K e a w → RegQ n K' e a w := by
      intro e a w hk h
      cases e <;> simp only [RegQ] at h ⊢
      obtain ⟨ρ, h1, h2⟩ := h; exact ⟨ρ, h1, hk _ _ h2⟩
    induction fuel with
    | zero => intro listed a w hk h; exact ⟨h.1, hq hk h.2⟩
    | succ fuel ih =>
      intro listed a w hk h
      refine ⟨fun h0 => hq hk (h.1 h0), fun i hi => ?_⟩
      have := h.2 i hi
      unfold wpOp at this ⊢
      split
      · rename_i ho; simp only [ho] at this; exact ih _ _ _ hk this
      · rename_i o ho
        simp only [ho] at this
        split
        · rename_i hw
          simp only [hw, if_true] at this
          rcases this with h | ⟨_, a0, w0, h0⟩
          · refine .inl ?_
            unfold Oper.wp at *
            generalize (execOp a.eval o).run P w = r at *
            cases r with
            | ok nx w' =>
              cases nx <;> simp only [Oper.upon] at h ⊢ <;>
                first
                  | exact ih _ _ _ hk h
                  | exact Calls.mono h (fun e w'' he => by
                      cases e
                      · exact ih _ _ _ hk he
                      · exact (RegQ_panic _ _ _ he).elim
                      · obtain ⟨a1, w1, h1⟩ := he; exact (RegQ_out _ _ h1).elim)
                  | exact Rows.mono h (fun _ _ he => ih _ _ _ hk he)
            | halt x w' => cases x <;> simp only [Oper.upon] at h ⊢; exact (RegQ_panic _ _ _ h).elim
          · exact (RegQ_out _ _ h0).elim
        · rename_i hw
          simp only [hw] at this
          exact ih _ _ _ hk this
  intro fuel
  induction fuel with
  | zero =>
    intro listed ρ w K h a ha
    unfold anyR at h
    split at h
    · exact ⟨‹_›, ρ, ha, h, fun _ _ => rfl⟩
    · exact h.elim
  | succ fuel ih =>
    intro listed ρ w K h a ha
    unfold anyR at h
    split at h
    · rename_i hr
      exact ⟨fun _ => ⟨ρ, ha, h, fun _ _ => rfl⟩, by rw [hr]; simp⟩
    · rename_i r rs hr
      have hne : Region.ready .any ops listed ≠ [] := by rw [hr]; simp
      -- one step of number i, by its meaning
      have one : ∀ i, stepR P C ops i ρ w (fun ρ' w' => anyR P C ops fuel (listed.setIfInBounds i true) ρ' w' K) →
          wpOp P ops (RegQ n fun ρ' w' => K ρ' w' ∧ ∀ i, opsWr ops.toList i = false → ρ' i = ρ i) i
            (wpAny P .any ops (RegQ n fun ρ' w' => K ρ' w' ∧ ∀ i, opsWr ops.toList i = false → ρ' i = ρ i) fuel (listed.setIfInBounds i true)) a w := by
        intro i hs
        unfold stepR at hs
        split at hs
        · rename_i o ho
          unfold wpOp
          simp only [ho]
          have := opG_wp (Q := RegQ n fun ρ' w' => K ρ' w' ∧ ∀ i, opsWr ops.toList i = false → ρ' i = ρ i) hC (opsOk_out hok (Array.mem_of_getElem? ho)) ha hs
            (next := wpAny P .any ops (RegQ n fun ρ' w' => K ρ' w' ∧ ∀ i, opsWr ops.toList i = false → ρ' i = ρ i) fuel (listed.setIfInBounds i true))
            (fun a' ρ' w' ha' h' hsame => weak _ _ _ _ (fun ρ2 w2 hk => ⟨hk.1, fun j hj => (hk.2 j hj).trans (hsame j (wr ho hj))⟩) (ih _ ρ' w' K h' a' ha'))
          split
          · rename_i hw; rw [if_pos hw] at this; exact .inl this
          · rename_i hw; rw [if_neg hw] at this; exact this
        · exact hs.elim
      split at h
      · rename_i i hp
        obtain ⟨hmem, ht⟩ := pickI_out hp
        unfold stepR at h
        split at h
        · rename_i o ho
          unfold takeable at ht
          simp only [ho] at ht
          -- its value, and what follows
          have hsameK : ∀ v, (∀ j, opsWr ops.toList j = false → upo ρ o.dst v j = ρ j) := fun v j hj => upo_ne v (wr ho hj)
          have rest : ∀ v, anyR P C ops fuel (listed.setIfInBounds i true) (upo ρ o.dst v) w K →
              wpAny P .any ops (RegQ n fun ρ' w' => K ρ' w' ∧ ∀ i, opsWr ops.toList i = false → ρ' i = ρ i) fuel (listed.setIfInBounds i true) (a.put o.dst v) w := fun v hv =>
            weak _ _ _ _ (fun ρ2 w2 hk => ⟨hk.1, fun j hj => (hk.2 j hj).trans (hsameK v j hj)⟩) (ih _ _ w K hv _ (ha.put (opsOk_out hok (Array.mem_of_getElem? ho)) v))
          split at ht
          · rename_i hpur
            have hy : ∃ v, Yields P ops o v a ∧ anyR P C ops fuel (listed.setIfInBounds i true) (upo ρ o.dst v) w K := by
              rcases guardR_out ha h with ⟨hw, h⟩ | ⟨hw, h⟩
              · unfold opR at h
                rw [hpur] at h
                obtain ⟨v, hv, hk⟩ := pureR_sound h
                exact ⟨v, .inl ⟨hw, fun w => by rw [ha.eval]; exact hv w⟩, hk⟩
              · exact ⟨undef, .inr ⟨hw, rfl⟩, h⟩
            obtain ⟨v, hy, hv⟩ := hy
            exact wpAny_first ho (Region.noSelect_spec hsel) (fun c a w h => (RegQ_panic _ _ _ h).elim) fuel listed a w (Region.free_spec ho ht) (by rw [hr]; exact hmem) hy (rest v hv)
          · split at ht
            · rename_i hl
              simp only [Bool.and_eq_true] at ht
              obtain ⟨hfr, hlf⟩ := ht
              generalize hB : waitsN ops listed i ops.size [] = B at hlf
              simp only [loadFree, Bool.and_eq_true, List.all_eq_true] at hlf
              obtain ⟨hb1, hb2⟩ := hlf
              have hy : ∃ v, YieldsIf P ops (fun w' => Ext w.heap w'.heap) o v a ∧ anyR P C ops fuel (listed.setIfInBounds i true) (upo ρ o.dst v) w K := by
                rcases guardR_out ha h with ⟨hw, h⟩ | ⟨hw, h⟩
                · unfold opR at h
                  rename_i hpur _
                  rw [hpur] at h
                  obtain ⟨dst, op, type, pos, after, guard⟩ := o
                  cases op <;> simp [isLoad] at hl
                  rename_i t ad
                  simp only [effR] at h
                  obtain ⟨v, hv, hk⟩ := loadR_heap h
                  refine ⟨v, .inl ⟨hw, fun w' hw' => ?_⟩, hk⟩
                  rw [ha.eval]
                  simp only [execOp, Sem.run_bind, hv w' hw']; rfl
                · exact ⟨undef, .inr ⟨hw, rfl⟩, h⟩
              obtain ⟨v, hy, hv⟩ := hy
              refine wpAny_firstH ho (Region.noSelect_spec hsel) RegQ_panic RegQ_out w.heap (fun j => j ∈ B) ?_ fuel listed a w (Region.free_spec ho hfr) ?_ ?_ (by rw [hr]; exact hmem) hy (Ext.refl _) (rest v hv)
              · intro j oj hoj hj
                have := hb1 j hj
                simp only [hoj, Option.map_some, Option.getD_some] at this
                have h2 := this.2
                rw [← Array.any_toList] at h2
                obtain ⟨e, he, h1⟩ := List.any_eq_true.1 h2
                have he := Array.mem_toList_iff.1 he
                simp only [Bool.and_eq_true, Bool.or_eq_true, List.contains_iff_mem] at h1
                exact ⟨e, he, h1.1, h1.2.imp (fun h => Nat.eq_of_beq_eq_true h) id⟩
              · intro j oj hoj hne' hun
                have hlt : j < ops.size := (Array.getElem?_eq_some_iff.1 hoj).1
                have := hb2 j (List.mem_range.2 hlt)
                simp only [Bool.or_eq_true, hoj, Option.map_some, Option.getD_some, hun, List.contains_iff_mem] at this
                rcases this with ((h | h) | h) | h
                · exact absurd (Nat.eq_of_beq_eq_true h) hne'
                · cases h
                · exact .inl h
                · exact .inr h
              · intro j hj
                have := hb1 j hj
                simp only [Bool.not_eq_true'] at this
                exact this.1
            · cases ht
        · exact h.elim
      · refine ⟨fun h0 => absurd h0 hne, fun i hi => one i ?_⟩
        rw [hr] at hi
        exact andR_mem h i hi
end
end Go.Eng
