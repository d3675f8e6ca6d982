import Derived.Test.YtmhjjhpgbafjpaaDoorEng4
set_option linter.unusedVariables false
namespace Go.Eng
open Go

/-! ### Operations that look at the world or turn it -/
def ldC (w : World) (a : Addr) : Nat → List Kd → (List Value → Prop) → Prop
  | _, [], K => K []
  | j, k :: ks, K => exK k fun v => w.cell? (a.add j) = some v ∧ ldC w a (j + 1) ks fun vs => K (v :: vs)
def ldAgg (P : Program) (t : TypeId) (w : World) (a : Addr) (K : Value → Prop) : Prop :=
  szR P t fun n => match Nat.beq n (flat P 8 t).length with
    | true => ldC w a 0 (flat P 8 t) fun vs => K (.agg ⟨vs⟩)
    | false => False
def loadR (P : Program) (t : TypeId) (addr : Value) (w : World) (K : Value → Prop) : Prop := match addr with
  | .pointer (some a) => (match P.underlying t with
    | some (.struct _) => ldAgg P t w a K
    | some (.array _ _) => ldAgg P t w a K
    | some d => exK (kd1 d) fun v => w.cell? a = some v ∧ K v
    | none => False)
  | _ => False
def stC (a : Addr) : Nat → List Value → World → (World → Prop) → Prop
  | _, [], w, K => K w
  | j, v :: vs, w, K => match v.oneCell' with
    | true => (∃ u, w.cell? (a.add j) = some u) ∧ w.frozen? (a.add j) = false ∧ stC a (j + 1) vs (w.setCell (a.add j) v) K
    | false => False
def storeR (P : Program) (t : TypeId) (addr v : Value) (w : World) (K : Value → World → Prop) : Prop := match addr with
  | .pointer (some a) => szR P t fun n => match Nat.beq v.cells.size n with
    | true => stC a 0 v.cells.toList w (K undef)
    | false => False
  | _ => False
def allocR (P : Program) (t : TypeId) (w : World) (K : Value → World → Prop) : Prop := match P.info? t with
  | some i => (match i.zero with
    | some z => K (.pointer (some ⟨w.heap.size, 0, none⟩)) (w.alloc (.cells z.cells t))
    | none => False)
  | none => False
def rowZero (z : Array Value) (n : Nat) : List Value := ((Array.range n).map (z[· % z.size]!)).toList
def buildSliceR (P : Program) (t : TypeId) (len : Nat) (parts : List (Nat × Value)) (w : World) (K : Value → World → Prop) : Prop := match P.underlying t with
  | some (.slice e) => szR P e fun sz => match Nat.ble (len * sz) 16777216 with
    | true => (match Nat.beq (len * sz) 0 with
      | true => buildElems sz (rowZero #[] (len * sz)) parts fun cs => K (.slice (some ⟨w.heap.size, 0, none⟩) len len) (w.alloc (.cells ⟨cs⟩ e))
      | false => (match P.info? e with
        | some i => (match i.zero with
          | some z => buildElems sz (rowZero z.cells (len * sz)) parts fun cs => K (.slice (some ⟨w.heap.size, 0, none⟩) len len) (w.alloc (.cells ⟨cs⟩ e))
          | none => False)
        | none => False))
    | false => False
  | _ => False
def rawR (P : Program) (t : TypeId) (s : Sem Value) (w : World) (K : Value → World → Prop) : Prop := exT P t fun v => ∃ w', s.run P w = .ok v w' ∧ K v w'
def rawU (P : Program) (s : Sem Unit) (w : World) (K : Value → World → Prop) : Prop := ∃ w', s.run P w = .ok () w' ∧ K undef w'
def rawV (P : Program) (s : Sem Value) (w : World) (K : Value → World → Prop) : Prop := ∃ v w', s.run P w = .ok v w' ∧ K v w'
def makeMapR (P : Program) (t : TypeId) (r : Option Value) (w : World) (K : Value → World → Prop) : Prop := match r with
  | none => K (.map (some w.heap.size)) (w.alloc (.map #[] 0))
  | some (.int _ _) => (match P.underlying t with
    | some (.map _ _) => K (.map (some w.heap.size)) (w.alloc (.map #[] 0))
    | _ => False)
  | _ => False
def rangeR (P : Program) (t : TypeId) (x : Value) (w : World) (K : Value → World → Prop) : Prop :=
  ∃ w', (Instr.range t x).run P w = .ok (.pointer (some ⟨w.heap.size, 0, none⟩)) w' ∧ K (.pointer (some ⟨w.heap.size, 0, none⟩)) w'
/-- Which functions may be called by a condition; what a range over a map hands over, by its iterator's slot. -/
structure Cf where
  call : FuncId → Bool
  nx : Nat → Option (TypeId × TypeId)
def nextR (P : Program) (C : Cf) (op : Operand) (it : Value) (isStr : Bool) (type : TypeId) (w : World) (K : Value → World → Prop) : Prop :=
  (∃ w', (Instr.next it isStr type).run P w = .ok (.tuple #[.bool false]) w' ∧ K (.tuple #[.bool false]) w') ∨
  (match op with
    | .tmp t => (match C.nx t with
      | some (kt, et) => ex1 P kt fun k => ex1 P et fun v => ∃ w', (Instr.next it isStr type).run P w = .ok (.tuple #[.bool true, k, v]) w' ∧ K (.tuple #[.bool true, k, v]) w'
      | none => False)
    | _ => False)
def entryR (P : Program) (C : Cf) (op : Operand) (it : Value) (w : World) (K : Value → World → Prop) : Prop := match op with
  | .tmp t => (match C.nx t with
    | some (kt, et) => ex1 P kt fun k => ex1 P et fun v => ∃ w', (Instr.entry it).run P w = .ok (.tuple #[k, v]) w' ∧ K (.tuple #[k, v]) w'
    | none => False)
  | _ => False
def mapEntryR (P : Program) (t : TypeId) (s : Sem Value) (w : World) (K : Value → World → Prop) : Prop := match P.underlying t with
  | some (.map _ e) => ex1 P e fun v => ∃ (n : Int) (w' : World), s.run P w = .ok (.tuple #[v, .int .i64 n]) w' ∧ K (.tuple #[v, .int .i64 n]) w'
  | _ => False
def semB (b : Builtin) (ts : Array TypeId) (type : TypeId) (args : Array Value) : Sem Value := match b with
  | .append => Builtin.append_ ts type args
  | .copy => Builtin.copy_ ts type args
  | .clear => Builtin.clear_ ts type args
  | .delete => Builtin.delete_ ts type args
  | .len => Builtin.len_ ts type args
  | .cap => Builtin.cap_ ts type args
  | _ => stuck ""
def isSemB (b : Builtin) : Bool := match b with
  | .append => true
  | .copy => true
  | .clear => true
  | .delete => true
  | .len => true
  | .cap => true
  | _ => false
/-- A call of a function value: of a function of the program with a body by its condition, of another one by its run. -/
def AnyCall (P : Program) (C : Cf) (fv : Value) (args : List Value) (w : World) (Rp : Ending → World → Prop) : Prop := match fv with
  | .func (.func f) first captured => (match C.call f with
    | true => Calls P f ⟨first.toList ++ (args ++ captured.toList)⟩ w Rp
    | false => ∃ v w', (callFunc f ⟨first.toList ++ (args ++ captured.toList)⟩).run P w = .ok (.value v) w' ∧ Rp (.returned v) w')
  | _ => False
def callR (P : Program) (C : Cf) (t : TypeId) (fv : Value) (args : List Value) (w : World) (K : Value → World → Prop) : Prop :=
  AnyCall P C fv args w fun e w' => exT P t fun v => e = .returned v ∧ K v w'
def effR (P : Program) (C : Cf) (op : Op) (type : TypeId) (ρ : Env) (w : World) (K : Value → World → Prop) : Prop := match op with
  | .load t a => loadR P t (ev ρ a) w fun v => K v w
  | .store t a x => storeR P t (ev ρ a) (ev ρ x) w K
  | .alloc t => allocR P t w K
  | .box t x => K (.pointer (some ⟨w.heap.size, 0, none⟩)) (w.alloc (.cells (ev ρ x).cells t))
  | .buildSlice t len parts => buildSliceR P t len (parts.toList.map fun p => (p.1, ev ρ p.2)) w K
  | .makeMap t r => makeMapR P t (r.map (ev ρ)) w K
  | .lookup t x ix ok => rawR P type (Instr.lookup t (ev ρ x) (ev ρ ix) ok) w K
  | .mapUpdate t m k x => rawU P (Instr.mapUpdate t (ev ρ m) (ev ρ k) (ev ρ x)) w K
  | .insert t m k x => rawU P (Instr.mapUpdate t (ev ρ m) (ev ρ k) (ev ρ x)) w K
  | .mapEntry t m k => mapEntryR P t (Instr.mapEntry t (ev ρ m) (ev ρ k)) w K
  | .entryStore t m s x => rawU P (Instr.entryStore t (ev ρ m) (ev ρ s) (ev ρ x)) w K
  | .entry it => entryR P C it (ev ρ it) w K
  | .makeSlice t l c => rawR P type (Instr.makeSlice t (ev ρ l) (ev ρ c)) w K
  | .convert s d x => rawR P type (convert s d (ev ρ x)) w K
  | .binOp op t x y _ => rawR P type (do eqGuard op t x y (ev ρ x) (ev ρ y); binOp op t (ev ρ x) (ev ρ y)) w K
  | .range t x => rangeR P t (ev ρ x) w K
  | .next it isStr => nextR P C it (ev ρ it) isStr type w K
  | .call c => (match c.callee with
    | .value f => callR P C type (ev ρ f) (c.args.toList.map (ev ρ)) w K
    | .builtin b => (match isSemB b with
      | true => rawR P type (semB b c.argTypes type ⟨c.args.toList.map (ev ρ)⟩) w K
      | false => False)
    | _ => False)
  | _ => False
def opR (P : Program) (C : Cf) (op : Op) (type : TypeId) (ρ : Env) (w : World) (K : Value → World → Prop) : Prop :=
  match isPur P op with
  | true => pureR P op ρ fun v => K v w
  | false => effR P C op type ρ w K

/-- What the program's function number f is: one with a body of its own. -/
def callable (P : Program) (f : FuncId) : Bool := match P.funcs[f]? with
  | some fn => fn.body.isSome && !(fn.name == "runtime.NumGoroutine")
  | none => false
theorem run_callFunc {P : Program} {f : FuncId} (h : callable P f = true) (args : Array Value) (w : World) : (callFunc f args).run P w = .ok (.enter f args) w := by
  unfold callable at h
  split at h
  · rename_i fn hf
    simp only [Bool.and_eq_true, Bool.not_eq_true'] at h
    obtain ⟨h1, h2⟩ := h
    have h3 : fn.body.isNone = false := by cases hb : fn.body <;> simp_all
    simp only [callFunc, Sem.run_bind, run_program, Result.andThen_ok, hf, h2, h3, Bool.false_eq_true, if_false, Sem.run_pure]
  · cases h

section
variable {P : Program} {C : Cf} {ρ : Env} {w : World} {K : Value → World → Prop}
theorem loadCells_out {a : Addr} : ∀ (ks : List Kd) (j : Nat) (acc : Array Value) {K : List Value → Prop}, ldC w a j ks K →
    ∃ vs, (loadCellsFrom a j ks.length acc).run P w = .ok ⟨acc.toList ++ vs⟩ w ∧ K vs
  | [], j, acc, K, h => ⟨[], by simp [loadCellsFrom], h⟩
  | k :: ks, j, acc, K, h => by
    obtain ⟨v, hc, h⟩ := exK_out h
    obtain ⟨vs, hr, hk⟩ := loadCells_out ks (j + 1) (acc.push v) h
    refine ⟨v :: vs, ?_, hk⟩
    simp only [List.length_cons, loadCellsFrom, Sem.run_bind, run_load, hc, Result.andThen_ok, hr]
    simp
theorem ldAgg_out {t : TypeId} {a : Addr} {K : Value → Prop} (h : ldAgg P t w a K) (hagg : (isAgg t).run P w = .ok true w) : ∃ v, (loadVar t a).run P w = .ok v w ∧ K v := by
  obtain ⟨i, hi, h⟩ := szR_out h
  split at h
  · rename_i hb
    have hb := Nat.eq_of_beq_eq_true hb
    obtain ⟨vs, hr, hk⟩ := loadCells_out (P := P) _ 0 #[] h
    refine ⟨_, ?_, hk⟩
    simp only [loadVar, Sem.run_bind, hagg, Result.andThen_ok, if_true, run_sizeOf hi, loadCells, hb, hr]
    simp
  · exact h.elim
theorem loadR_out {t : TypeId} {ad : Value} {K : Value → Prop} (h : loadR P t ad w K) : ∃ v, (Instr.loadAt t ad).run P w = .ok v w ∧ K v := by
  unfold loadR at h
  split at h
  · rename_i a
    split at h
    · rename_i fs ht
      obtain ⟨v, hv, hk⟩ := ldAgg_out h (run_isAgg_s ht w)
      exact ⟨v, by simp [Instr.loadAt, Instr.sureAddr, hv], hk⟩
    · rename_i n e ht
      obtain ⟨v, hv, hk⟩ := ldAgg_out h (run_isAgg_a ht w)
      exact ⟨v, by simp [Instr.loadAt, Instr.sureAddr, hv], hk⟩
    · rename_i d h1 h2 hd
      obtain ⟨v, hc, hk⟩ := exK_out h
      exact ⟨v, by simp [Instr.loadAt, Instr.sureAddr, loadVar, run_isAgg_o hd h1 h2, hc], hk⟩
    · exact h.elim
  · exact h.elim
theorem storeCells_out {a : Addr} : ∀ (vs : List Value) (j : Nat) (w : World) {K : World → Prop}, stC a j vs w K → ∃ w', (storeCells a vs j).run P w = .ok () w' ∧ K w'
  | [], j, w, K, h => ⟨w, by simp [storeCells], h⟩
  | v :: vs, j, w, K, h => by
    unfold stC at h
    split at h
    · rename_i h1
      obtain ⟨⟨u, hu⟩, hf, h⟩ := h
      obtain ⟨w', hr, hk⟩ := storeCells_out vs (j + 1) _ h
      refine ⟨w', ?_, hk⟩
      simp only [storeCells, Sem.run_bind, run_store _ _ _ _ _ h1, hu, hf, Bool.false_eq_true, if_false, Result.andThen_ok, hr]
    · exact h.elim
theorem storeR_out {t : TypeId} {ad v : Value} (h : storeR P t ad v w K) : ∃ w', (Instr.storeAt t ad v).run P w = .ok () w' ∧ K undef w' := by
  unfold storeR at h
  split at h
  · obtain ⟨i, hi, h⟩ := szR_out h
    split at h
    · rename_i hb
      have hb := Nat.eq_of_beq_eq_true hb
      obtain ⟨w', hr, hk⟩ := storeCells_out (P := P) _ _ _ h
      refine ⟨w', ?_, hk⟩
      simp [Instr.storeAt, Instr.sureAddr, storeVar, run_sizeOf hi, hb, hr]
    · exact h.elim
  · exact h.elim
theorem buildSliceR_out {t : TypeId} {len : Nat} {parts : Array (Nat × Value)} (h : buildSliceR P t len parts.toList w K) :
    ∃ v w', (Instr.buildSlice t len parts).run P w = .ok v w' ∧ K v w' := by
  unfold buildSliceR at h
  split at h
  · rename_i e ht
    obtain ⟨i, hi, h⟩ := szR_out h
    split at h
    · rename_i hb
      have hb := Nat.le_of_ble_eq_true hb
      have hb' : ¬ (len * i.size > 2 ^ 24) := by omega
      split at h
      · rename_i h0
        have h0 := Nat.eq_of_beq_eq_true h0
        obtain ⟨cs, hc, hk⟩ := buildElems_out parts.toList ((Array.range (len * i.size)).map ((#[] : Array Value)[· % (#[] : Array Value).size]!)) h
        refine ⟨_, _, ?_, hk⟩
        simp only [Instr.buildSlice, Sem.run_bind, run_ul ht, Result.andThen_ok, run_sizeOf hi, if_neg hb', if_pos h0, Sem.run_pure, hc, newRow, run_newObj]
        rfl
      · rename_i h0
        have h0 : ¬ (len * i.size = 0) := fun e => by rw [e] at h0; cases h0
        split at h
        · rename_i i' hi'
          rw [hi] at hi'; cases hi'
          split at h
          · rename_i z hz
            obtain ⟨cs, hc, hk⟩ := buildElems_out parts.toList ((Array.range (len * i.size)).map (z.cells[· % z.cells.size]!)) h
            have hzv : (zeroValue e).run P w = .ok z w := by simp [zeroValue, typeInfo, hi, hz]
            refine ⟨_, _, ?_, hk⟩
            simp only [Instr.buildSlice, Sem.run_bind, run_ul ht, Result.andThen_ok, run_sizeOf hi, if_neg hb', if_neg h0, hzv, Sem.run_pure, hc, newRow, run_newObj]
            rfl
          · exact h.elim
        · exact h.elim
    · exact h.elim
  · exact h.elim
theorem rawR_out {t : TypeId} {s : Sem Value} (h : rawR P t s w K) : ∃ v w', s.run P w = .ok v w' ∧ K v w' := by
  obtain ⟨v, w', h1, h2⟩ := exT_out h; exact ⟨v, w', h1, h2⟩

/-- What an operation does: it yields a value and a world, or enters a call that comes back so. -/
def Does (P : Program) (s : Sem Next) (w : World) (K : Value → World → Prop) : Prop :=
  (∃ v w', s.run P w = .ok (.value v) w' ∧ K v w') ∨ (∃ w', s.run P w = .ok .skip w' ∧ K undef w') ∨
  ∃ f args, s.run P w = .ok (.enter f args) w ∧ Calls P f args w fun e w' => ∃ v, e = .returned v ∧ K v w'
theorem effR_does (hC : ∀ f, C.call f = true → callable P f = true) {o : Oper} (h : effR P C o.op o.type ρ w K) : Does P (execOp (ev ρ) o) w K := by
  obtain ⟨dst, op, type, pos, after, guard⟩ := o
  have lift : ∀ {s : Sem Value}, (∃ v w', s.run P w = .ok v w' ∧ K v w') → execOp (ev ρ) ⟨dst, op, type, pos, after, guard⟩ = (do pure (.value (← s)) : Sem Next) → Does P (execOp (ev ρ) ⟨dst, op, type, pos, after, guard⟩) w K := by
    rintro s ⟨v, w', hv, hk⟩ he
    exact .inl ⟨v, w', by rw [he, Sem.run_bind, hv]; rfl, hk⟩
  have liftU : ∀ {s : Sem Unit}, (∃ w', s.run P w = .ok () w' ∧ K undef w') → execOp (ev ρ) ⟨dst, op, type, pos, after, guard⟩ = (do s; pure .skip : Sem Next) → Does P (execOp (ev ρ) ⟨dst, op, type, pos, after, guard⟩) w K := by
    rintro s ⟨w', hv, hk⟩ he
    exact .inr (.inl ⟨w', by rw [he, Sem.run_bind, hv]; rfl, hk⟩)
  cases op <;> simp only [effR] at h <;> (try exact h.elim)
  case load t a => obtain ⟨v, hv, hk⟩ := loadR_out h; exact lift ⟨v, w, hv, hk⟩ rfl
  case store t a x => exact liftU (storeR_out h) rfl
  case alloc t =>
    unfold allocR at h
    split at h
    · rename_i i hi
      split at h
      · rename_i z hz
        refine lift (s := Instr.alloc t true (.tuple #[])) ⟨_, _, ?_, h⟩ rfl
        simp only [Instr.alloc, Sem.run_bind, zeroValue, typeInfo, run_program, Result.andThen_ok, hi, Sem.run_pure, hz, newVar, newRow, run_newObj]
        rfl
      · exact h.elim
    · exact h.elim
  case box t x =>
    have hr : (Instr.box t (ev ρ x)).run P w = .ok (.pointer (some ⟨w.heap.size, 0, none⟩)) (w.alloc (.cells (ev ρ x).cells t)) := rfl
    exact lift ⟨_, _, hr, h⟩ rfl
  case buildSlice t len parts =>
    have h' : buildSliceR P t len (parts.map fun (i, x) => (i, ev ρ x)).toList w K := by simpa using h
    have h2 := buildSliceR_out h'
    refine lift h2 ?_
    simp only [execOp]
  case makeMap t r =>
    unfold makeMapR at h
    split at h
    · rename_i hr
      exact lift (s := Instr.makeMap t (r.map (ev ρ))) ⟨_, _, by rw [hr]; rfl, h⟩ rfl
    · rename_i hr
      split at h
      · rename_i ht
        exact lift (s := Instr.makeMap t (r.map (ev ρ))) ⟨_, _, by rw [hr]; simp [Instr.makeMap, run_ul ht, asInt, asIntOf], h⟩ rfl
      · exact h.elim
    · exact h.elim
  case lookup t x ix ok => exact lift (rawR_out h) rfl
  case mapUpdate t m k x => exact liftU h rfl
  case insert t m k x => exact liftU h rfl
  case mapEntry t m k =>
    unfold mapEntryR at h
    split at h
    · obtain ⟨v, n, w', h1, h2⟩ := ex1_out h
      exact lift ⟨_, w', h1, h2⟩ rfl
    · exact h.elim
  case entryStore t m s x => exact liftU h rfl
  case entry it =>
    unfold entryR at h
    split at h
    · split at h
      · obtain ⟨k, h⟩ := ex1_out h
        obtain ⟨v, w', h1, h2⟩ := ex1_out h
        exact lift ⟨_, w', h1, h2⟩ rfl
      · exact h.elim
    · exact h.elim
  case makeSlice t l c => exact lift (rawR_out h) rfl
  case convert s d x => exact lift (rawR_out h) rfl
  case binOp op t x y yt => exact lift (rawR_out h) rfl
  case range t x => obtain ⟨w', h1, h2⟩ := h; exact lift ⟨_, w', h1, h2⟩ rfl
  case next it isStr =>
    rcases h with ⟨w', h1, h2⟩ | h
    · exact lift ⟨_, w', h1, h2⟩ rfl
    · split at h
      · split at h
        · obtain ⟨k, h⟩ := ex1_out h
          obtain ⟨v, w', h1, h2⟩ := ex1_out h
          exact lift ⟨_, w', h1, h2⟩ rfl
        · exact h.elim
      · exact h.elim
  case call c =>
    obtain ⟨callee, args, ats⟩ := c
    cases callee <;> simp only [] at h <;> (try exact h.elim)
    case value f =>
      unfold callR AnyCall at h
      split at h
      · rename_i fid first captured hf
        have eargs : (⟨first.toList ++ (List.map (ev ρ) args.toList ++ captured.toList)⟩ : Array Value) = first ++ Array.map (ev ρ) args ++ captured := by
          apply Array.ext'
          simp
        rw [eargs] at h
        split at h
        · rename_i hc
          refine .inr (.inr ⟨fid, _, ?_, h.mono fun e w' he => ?_⟩)
          · simp only [execOp, resolve, hf, Deferred.ofValue, Sem.run_bind, Sem.run_pure, Result.andThen_ok, invoke, run_callFunc (hC _ hc)]
          · obtain ⟨v, h1, h2⟩ := exT_out he; exact ⟨v, h1, h2⟩
        · obtain ⟨v, w', h1, h2⟩ := h
          obtain ⟨x, h3, h4⟩ := exT_out h2
          cases h3
          refine .inl ⟨v, w', ?_, h4⟩
          simp only [execOp, resolve, hf, Deferred.ofValue, Sem.run_bind, Sem.run_pure, Result.andThen_ok, invoke]
          exact h1
      · exact h.elim
    case builtin b =>
      split at h
      · rename_i hb
        refine lift (s := semB b ats type (args.map (ev ρ))) ?_ ?_
        · have := rawR_out h
          have e : (⟨List.map (ev ρ) args.toList⟩ : Array Value) = args.map (ev ρ) := by apply Array.ext'; simp
          rw [e] at this; exact this
        · cases b <;> simp [isSemB] at hb <;> rfl
      · exact h.elim
theorem opR_does (hC : ∀ f, C.call f = true → callable P f = true) {o : Oper} (h : opR P C o.op o.type ρ w K) : Does P (execOp (ev ρ) o) w K := by
  unfold opR at h
  split at h
  · obtain ⟨v, hv, hk⟩ := pureR_sound h
    exact .inl ⟨v, w, hv w, hk⟩
  · exact effR_does hC h
theorem Does.wp {n : Nat} {o : Oper} {a : Act} {next : Act → World → Prop} {Q : Exit → Act → World → Prop} (ha : At n a ρ) (h : Does P (execOp (ev ρ) o) w K)
    (hk : ∀ v w', K v w' → next (a.put o.dst v) w') : o.wp P a w next Q := by
  unfold Oper.wp
  rw [ha.eval]
  rcases h with ⟨v, w', h1, h2⟩ | ⟨w', h1, h2⟩ | ⟨f, args, h1, h2⟩
  · rw [h1]; exact hk _ _ h2
  · rw [h1]; exact hk _ _ h2
  · rw [h1, Oper.upon_enter]
    refine h2.mono ?_
    rintro e w' ⟨v, rfl, hv⟩
    exact hk _ _ hv
end
end Go.Eng
