import Derived.Test.YtmhjjhpgbafjpaaDoorEng3
set_option linter.unusedVariables false
namespace Go.Eng
open Go
section
variable {P : Program} {K : Value → Prop}
theorem lenR_yld {t ty : TypeId} {x : Value} (h : lenR P t x K) : Yld P (Builtin.len_ #[t] ty #[x]) K := by
  unfold lenR at h
  split at h
  · rename_i ht
    split at h
    · exact ⟨_, fun w => by simp [Builtin.len_, run_ul ht, goInt], h⟩
    · exact h.elim
  · rename_i e ht
    split at h
    · exact ⟨_, fun w => by simp [Builtin.len_, run_ul ht, goInt], h⟩
    · exact h.elim
  · rename_i n e ht
    exact ⟨_, fun w => by simp [Builtin.len_, run_ul ht, goInt], h⟩
  · exact h.elim
theorem mm_min : ∀ (l : List Value) {x : Value}, mmR true x K l → Yld P (l.foldlM Builtin.min2 x) K
  | [], x, h => ⟨x, fun w => rfl, h⟩
  | y :: ys, x, h => by
    unfold mmR at h
    split at h
    · obtain ⟨v, hv, hk⟩ := mm_min ys h
      exact ⟨v, fun w => by simp only [List.foldlM_cons, Sem.run_bind, Builtin.min2, Sem.run_pure, Result.andThen_ok]; exact hv w, hk⟩
    · exact h.elim
theorem mm_max : ∀ (l : List Value) {x : Value}, mmR false x K l → Yld P (l.foldlM Builtin.max2 x) K
  | [], x, h => ⟨x, fun w => rfl, h⟩
  | y :: ys, x, h => by
    unfold mmR at h
    split at h
    · obtain ⟨v, hv, hk⟩ := mm_max ys h
      exact ⟨v, fun w => by simp only [List.foldlM_cons, Sem.run_bind, Builtin.max2, Sem.run_pure, Result.andThen_ok]; exact hv w, hk⟩
    · exact h.elim
theorem fill_fold (off : Nat) : ∀ (l : List Value) (k : Nat) (cells : Array Value),
    (l.zipIdx k).foldl (fun cs (p : Value × Nat) => cs.setIfInBounds (off + p.2) p.1) cells = ⟨fillC cells.toList (off + k) l⟩
  | [], k, cells => by simp [fillC]
  | c :: cs, k, cells => by
    simp only [List.zipIdx_cons, List.foldl_cons, fillC]
    rw [fill_fold off cs (k + 1)]
    simp [Nat.add_assoc]
theorem fill_cells (v : Value) (off : Nat) (cells : Array Value) :
    v.cells.zipIdx.foldl (fun cs (c, j) => cs.setIfInBounds (off + j) c) cells = ⟨fillC cells.toList off v.cells.toList⟩ := by
  have := fill_fold off v.cells.toList 0 cells
  rw [← Array.foldl_toList, Array.toList_zipIdx]
  simpa using this
theorem fillC_length : ∀ (l : List Value) (off : Nat) (cells : List Value), (fillC cells off l).length = cells.length
  | [], _, _ => rfl
  | c :: cs, off, cells => by simp [fillC, fillC_length cs]
def places (P : Program) (fs : List Field) : List (Nat × Nat) := fs.map fun f => (f.offset, ((P.info? f.type).map (·.size)).getD 0)
theorem run_places : ∀ (fs : List Field), allSized P fs = true → ∀ w, (fs.mapM fun f => do pure (f.offset, ← sizeOf f.type) : Sem (List (Nat × Nat))).run P w = .ok (places P fs) w
  | [], _, w => rfl
  | f :: fs, h, w => by
    simp only [allSized, List.all_cons, Bool.and_eq_true] at h
    obtain ⟨i, hi⟩ := Option.isSome_iff_exists.1 h.1
    simp only [List.mapM_cons, Sem.run_bind, run_sizeOf hi, Result.andThen_ok, Sem.run_pure, run_places fs h.2, places, List.map_cons, hi, Option.map_some, Option.getD_some]
theorem buildParts_out {fs : Array Field} (hs : allSized P fs.toList = true) : ∀ (parts : List (Nat × Value)) (cells : Array Value) {K : List Value → Prop}, buildParts P fs cells.toList parts K →
    ∃ cs, Instr.fill (fun i => (places P fs.toList)[i]?) cells parts = some ⟨cs⟩ ∧ K cs
  | [], cells, K, h => ⟨cells.toList, by simp [Instr.fill], h⟩
  | (i, v) :: rest, cells, K, h => by
    unfold buildParts at h
    split at h
    · rename_i fl hf
      obtain ⟨inf, hinf, h⟩ := szR_out h
      split at h
      · rename_i hb
        split at h
        · rename_i hle
          have hp : (places P fs.toList)[i]? = some (fl.offset, inf.size) := by
            simp [places, hf, hinf]
          have h1 := Nat.eq_of_beq_eq_true hb
          have h2 := Nat.le_of_ble_eq_true hle
          have := buildParts_out hs rest ⟨fillC cells.toList fl.offset v.cells.toList⟩ h
          obtain ⟨cs, hc, hk⟩ := this
          refine ⟨cs, ?_, hk⟩
          unfold Instr.fill
          simp only [hp]
          rw [if_neg (by rw [Array.length_toList] at h2; simp; omega), fill_cells]
          exact hc
        · exact h.elim
      · exact h.elim
    · exact h.elim
theorem buildElems_out {sz : Nat} : ∀ (parts : List (Nat × Value)) (cells : Array Value) {K : List Value → Prop}, buildElems sz cells.toList parts K →
    ∃ cs, Instr.fill (fun i => some (i * sz, sz)) cells parts = some ⟨cs⟩ ∧ K cs
  | [], cells, K, h => ⟨cells.toList, by simp [Instr.fill], h⟩
  | (i, v) :: rest, cells, K, h => by
    unfold buildElems at h
    split at h
    · rename_i hb
      split at h
      · rename_i hle
        have h1 := Nat.eq_of_beq_eq_true hb
        have h2 := Nat.le_of_ble_eq_true hle
        obtain ⟨cs, hc, hk⟩ := buildElems_out rest ⟨fillC cells.toList (i * sz) v.cells.toList⟩ h
        refine ⟨cs, ?_, hk⟩
        unfold Instr.fill
        simp only []
        rw [if_neg (by rw [Array.length_toList] at h2; simp; omega), fill_cells]
        exact hc
      · exact h.elim
    · exact h.elim
theorem buildR_yld {t : TypeId} {parts : Array (Nat × Value)} (h : buildR P t parts.toList K) : Yld P (Instr.build t parts) K := by
  unfold buildR at h
  split at h
  · rename_i i hi
    split at h
    · rename_i z hz
      have hzv : ∀ w, (zeroValue t).run P w = .ok z w := fun w => by simp [zeroValue, typeInfo, hi, hz]
      split at h
      · rename_i fs ht
        split at h
        · rename_i hall
          obtain ⟨cs, hc, hk⟩ := buildParts_out hall parts.toList z.cells h
          have hm : ∀ w, (fs.mapM fun f => do pure (f.offset, ← sizeOf f.type) : Sem (Array (Nat × Nat))).run P w = .ok ⟨places P fs.toList⟩ w := fun w => by
            rw [← Array.toArray_toList (xs := fs), List.mapM_toArray]
            simp only [Sem.run_map, run_places _ hall, Result.andThen_ok]
          refine ⟨_, fun w => ?_, hk⟩
          simp only [Instr.build, Sem.run_bind, hzv, Result.andThen_ok, run_ul ht, hm]
          have : (fun x : Nat => (⟨places P fs.toList⟩ : Array (Nat × Nat))[x]?) = fun i : Nat => (places P fs.toList)[i]? := by funext i; simp
          rw [this, hc]
          rfl
        · exact h.elim
      · rename_i n e ht
        obtain ⟨inf, hinf, h⟩ := szR_out h
        obtain ⟨cs, hc, hk⟩ := buildElems_out parts.toList z.cells h
        refine ⟨_, fun w => ?_, hk⟩
        simp only [Instr.build, Sem.run_bind, hzv, Result.andThen_ok, run_ul ht, run_sizeOf hinf, hc]
        rfl
      · exact h.elim
    · exact h.elim
  · exact h.elim

/-- THE PURE OPERATIONS. -/
theorem pureR_sound {o : Oper} {ρ : Env} (h : pureR P o.op ρ K) : ∃ v, (∀ w, (execOp (ev ρ) o).run P w = .ok (.value v) w) ∧ K v := by
  obtain ⟨dst, op, type, pos, after, guard⟩ := o
  have lift : ∀ {s : Sem Value}, Yld P s K → (∀ w, (execOp (ev ρ) ⟨dst, op, type, pos, after, guard⟩).run P w = (do pure (.value (← s)) : Sem Next).run P w) → ∃ v, (∀ w, (execOp (ev ρ) ⟨dst, op, type, pos, after, guard⟩).run P w = .ok (.value v) w) ∧ K v := by
    rintro s ⟨v, hv, hk⟩ he
    exact ⟨v, fun w => by rw [he, Sem.run_bind, hv]; rfl, hk⟩
  cases op <;> simp only [pureR] at h <;> (try exact h.elim)
  case move x => exact ⟨_, fun w => rfl, h⟩
  case assign x => exact ⟨_, fun w => rfl, h⟩
  case pick c a b =>
    split at h
    · rename_i c hc
      exact ⟨_, fun w => by simp [execOp, hc, asBool], pickR_out h⟩
    · exact h.elim
  case nilCheck x =>
    unfold nilR at h
    split at h
    · rename_i p hp
      obtain ⟨a, rfl, h⟩ := h
      exact ⟨_, fun w => by simp [execOp, hp], h⟩
    · rename_i hp
      exact ⟨_, fun w => by simp [execOp, hp], h⟩
    · exact h.elim
  case binOp op t x y yt => exact lift (binR_yld h) (fun w => rfl)
  case unOp op t x => exact lift (unR_yld h) (fun w => rfl)
  case convert s d x => exact lift (convR_yld h) (fun w => rfl)
  case makeFunc fn first captured => exact ⟨_, fun w => rfl, h⟩
  case slice t x lo hi mx => exact lift (sliceR_yld h) (fun w => rfl)
  case fieldAddr s x f => exact lift (fieldAddrR_yld h) (fun w => rfl)
  case field t x f => exact lift (fieldR_yld h) (fun w => rfl)
  case indexAddr t x i => exact lift (indexAddrR_yld h) (fun w => rfl)
  case index t x i => exact lift (indexR_yld h) (fun w => rfl)
  case extract x ix => exact lift (extractR_yld h) (fun w => rfl)
  case build t parts =>
    refine lift (s := Instr.build t (parts.map fun (i, x) => (i, ev ρ x))) (buildR_yld ?_) (fun w => rfl)
    simpa using h
  case call c =>
    obtain ⟨callee, args, ats⟩ := c
    cases callee <;> simp only [] at h <;> (try exact h.elim)
    rename_i b
    cases b <;> simp only [purB] at h <;> (try exact h.elim)
    case len =>
      split at h
      · rename_i t x ht hx
        obtain ⟨v, hv, hk⟩ := lenR_yld (ty := type) h
        refine ⟨v, fun w => ?_, hk⟩
        have ha : (args.map (ev ρ))[0]? = some x := by simpa using hx
        have e : (Builtin.len_ ats type (args.map (ev ρ))) = Builtin.len_ #[t] type #[x] := by
          unfold Builtin.len_
          rw [ht, ha]
          rfl
        simp only [execOp, resolve, Sem.run_bind, Sem.run_pure, Result.andThen_ok, invoke, builtin, e, hv]
      · exact h.elim
    case min =>
      split at h
      · exact h.elim
      · rename_i x xs hl
        obtain ⟨v, hv, hk⟩ := mm_min (P := P) xs h
        refine ⟨v, fun w => ?_, hk⟩
        have e : Builtin.min_ ats type (args.map (ev ρ)) = xs.foldlM Builtin.min2 x := by
          unfold Builtin.min_
          rw [Array.toList_map, hl]
        simp only [execOp, resolve, Sem.run_bind, Sem.run_pure, Result.andThen_ok, invoke, builtin, e, hv]
    case max =>
      split at h
      · exact h.elim
      · rename_i x xs hl
        obtain ⟨v, hv, hk⟩ := mm_max (P := P) xs h
        refine ⟨v, fun w => ?_, hk⟩
        have e : Builtin.max_ ats type (args.map (ev ρ)) = xs.foldlM Builtin.max2 x := by
          unfold Builtin.max_
          rw [Array.toList_map, hl]
        simp only [execOp, resolve, Sem.run_bind, Sem.run_pure, Result.andThen_ok, invoke, builtin, e, hv]
end
end Go.Eng
