import Derived.Test.YtmhjjhpgbafjpaaDoorEng5
set_option linter.unusedVariables false
namespace Go.Eng
open Go

/-! ### Regions -/
def guardR (ops : Array Oper) (g : Option (Nat × Bool)) (ρ : Env) (Ky Kn : Env → Prop) : Prop := match g with
  | none => Ky ρ
  | some (j, want) => (match (ops[j]?).bind (·.dst) with
    | some d => (match ρ d with
      | .bool b => cond b (cond want (Ky (up ρ d (.bool true))) (Kn (up ρ d (.bool true)))) (cond want (Kn (up ρ d (.bool false))) (Ky (up ρ d (.bool false))))
      | .tuple _ => Kn ρ
      | _ => False)
    | none => False)
def opG (P : Program) (C : Cf) (ops : Array Oper) (o : Oper) (ρ : Env) (w : World) (K : Env → World → Prop) : Prop :=
  guardR ops o.guard ρ (fun ρ => opR P C o.op o.type ρ w fun v w' => K (upo ρ o.dst v) w') (fun ρ => K (upo ρ o.dst undef) w)
def regL (P : Program) (C : Cf) (ops : Array Oper) : List Oper → Env → World → (Env → World → Prop) → Prop
  | [], ρ, w, K => K ρ w
  | o :: rest, ρ, w, K => opG P C ops o ρ w fun ρ' w' => regL P C ops rest ρ' w' K
def quietOp (op : Op) : Bool := match op with
  | .load _ _ => true
  | .move _ => true
  | .assign _ => true
  | .indexAddr _ _ _ => true
  | .extract _ _ => true
  | .field _ _ _ => true
  | .alloc _ => true
  | .box _ _ => true
  | .buildSlice _ _ _ => true
  | _ => false
def isLoad (op : Op) : Bool := match op with | .load _ _ => true | _ => false
/-- One more round of: who waits for number i, or for one who does. -/
def waits1 (ops : Array Oper) (listed : Array Bool) (i : Nat) (B : List Nat) : List Nat :=
  (List.range ops.size).filter fun j => !listed.getD j false && ((ops[j]?).map (·.after.any fun e => Region.binds .any e && (Nat.beq e.on i || B.contains e.on))).getD false
def waitsN (ops : Array Oper) (listed : Array Bool) (i : Nat) : Nat → List Nat → List Nat
  | 0, B => B
  | f + 1, B => (match Nat.beq (waits1 ops listed i B).length B.length with
    | true => B
    | false => waitsN ops listed i f (waits1 ops listed i B))
def loadFree (ops : Array Oper) (listed : Array Bool) (i : Nat) (B : List Nat) : Bool :=
  (B.all fun j => !listed.getD j false && ((ops[j]?).map (·.after.any fun e => Region.binds .any e && (Nat.beq e.on i || B.contains e.on))).getD false) &&
  ((List.range ops.size).all fun j => Nat.beq j i || listed.getD j true || B.contains j || ((ops[j]?).map fun o => quietOp o.op).getD false)
def takeable (P : Program) (ops : Array Oper) (listed : Array Bool) (i : Nat) : Bool := match ops[i]? with
  | some o => (match isPur P o.op with
    | true => Region.free .any ops listed i
    | false => (match isLoad o.op with
      | true => Region.free .any ops listed i && loadFree ops listed i (waitsN ops listed i ops.size [])
      | false => false))
  | none => false
def pickI (P : Program) (ops : Array Oper) (listed : Array Bool) : List Nat → Option Nat
  | [] => none
  | i :: is => (match takeable P ops listed i with
    | true => some i
    | false => pickI P ops listed is)
def andR (f : Nat → Prop) : List Nat → Prop
  | [] => True
  | i :: is => (match is with
    | [] => f i
    | _ :: _ => f i ∧ andR f is)
def stepR (P : Program) (C : Cf) (ops : Array Oper) (i : Nat) (ρ : Env) (w : World) (K : Env → World → Prop) : Prop := match ops[i]? with
  | some o => opG P C ops o ρ w K
  | none => False
def anyR (P : Program) (C : Cf) (ops : Array Oper) : Nat → Array Bool → Env → World → (Env → World → Prop) → Prop
  | 0, listed, ρ, w, K => (match Region.ready .any ops listed with
    | [] => K ρ w
    | _ :: _ => False)
  | f + 1, listed, ρ, w, K => (match Region.ready .any ops listed with
    | [] => K ρ w
    | r :: rs => (match pickI P ops listed (r :: rs) with
      | some i => stepR P C ops i ρ w fun ρ' w' => anyR P C ops f (listed.setIfInBounds i true) ρ' w' K
      | none => andR (fun i => stepR P C ops i ρ w fun ρ' w' => anyR P C ops f (listed.setIfInBounds i true) ρ' w' K) (r :: rs)))
def opsOk (n : Nat) (ops : Array Oper) : Bool := ops.all fun o => match o.dst with
  | some d => Nat.blt d n
  | none => true
def opsWr (ops : List Oper) (i : Nat) : Bool := ops.any fun o => match o.dst with
  | some d => Nat.beq d i
  | none => false

/-! ### Quiet operations -/
/-- The heap has grown at its end, no more. -/
def Ext (h h' : Array Obj) : Prop := h.size ≤ h'.size ∧ ∀ k, k < h.size → h'[k]? = h[k]?
theorem Ext.refl (h : Array Obj) : Ext h h := ⟨Nat.le_refl _, fun _ _ => rfl⟩
theorem Ext.trans {a b c : Array Obj} (h : Ext a b) (k : Ext b c) : Ext a c := ⟨Nat.le_trans h.1 k.1, fun i hi => (k.2 i (Nat.lt_of_lt_of_le hi h.1)).trans (h.2 i hi)⟩
theorem Ext.push (h : Array Obj) (o : Obj) : Ext h (h.push o) := ⟨by simp, fun k hk => by rw [Array.getElem?_push, if_neg (by omega)]⟩
theorem Ext.of_eq {h h' : Array Obj} (e : h' = h) : Ext h h' := e ▸ Ext.refl _
def Quiet {α : Type} (s : Sem α) : Prop := ∀ P w x w', s.run P w = .ok x w' → Ext w.heap w'.heap
theorem Quiet.pure {α : Type} (x : α) : Quiet (Pure.pure x : Sem α) := fun P w y w' h => by simp at h; rw [h.2]; exact Ext.refl _
theorem Quiet.bind {α β : Type} {s : Sem α} {f : α → Sem β} (h : Quiet s) (hf : ∀ x, Quiet (f x)) : Quiet (s >>= f) := by
  intro P w y w' hr
  rw [Sem.run_bind] at hr
  cases hs : s.run P w with
  | ok x w1 => rw [hs] at hr; exact (h P w x w1 hs).trans (hf x P w1 y w' hr)
  | halt x w1 => rw [hs] at hr; cases hr
theorem Quiet.halt {α : Type} (x : Halt) : Quiet (Sem.halt x : Sem α) := fun P w y w' h => by simp at h
theorem Quiet.stuck {α : Type} (x : String) : Quiet (stuck x : Sem α) := fun P w y w' h => by simp at h
theorem Quiet.uns {α : Type} (x : Unsupported) : Quiet (unsupported x : Sem α) := fun P w y w' h => by simp at h
theorem Quiet.program : Quiet program := fun P w y w' h => by simp at h; rw [h.2]; exact Ext.refl _
theorem Quiet.load (a : Addr) (m : Mode) : Quiet (load a m) := fun P w y w' h => by
  rw [run_load] at h
  split at h
  · cases h; exact Ext.refl _
  · split at h
    · cases h; exact Ext.refl _
    · cases h
theorem Quiet.choose (q : Question) : Quiet (choose q) := fun P w y w' h => by
  rw [run_choose] at h
  split at h <;> (cases h; exact Ext.refl _)
theorem Quiet.newObj (o : Obj) : Quiet (newObj o) := fun P w y w' h => by
  rw [run_newObj] at h; cases h; exact Ext.push _ _
theorem Quiet.ite {α : Type} {c : Prop} [Decidable c] {x y : Sem α} (hx : Quiet x) (hy : Quiet y) : Quiet (if c then x else y) := by split <;> assumption
theorem Quiet.map {α β : Type} {s : Sem α} (f : α → β) (h : Quiet s) : Quiet (f <$> s) := by
  intro P w y w' hr
  rw [Sem.run_map] at hr
  cases hs : s.run P w with
  | ok x w1 => rw [hs] at hr; cases hr; exact h P w x _ hs
  | halt x w1 => rw [hs] at hr; cases hr
theorem Quiet.typeInfo (t : TypeId) : Quiet (typeInfo t) := by
  unfold Go.typeInfo
  refine Quiet.bind Quiet.program fun p => ?_
  split
  · exact Quiet.pure _
  · exact Quiet.stuck _
theorem Quiet.underlying (t : TypeId) : Quiet (underlying t) := by
  unfold Go.underlying
  refine Quiet.bind Quiet.program fun p => ?_
  split
  · exact Quiet.pure _
  · exact Quiet.stuck _
theorem Quiet.sizeOf (t : TypeId) : Quiet (sizeOf t) := Quiet.bind (Quiet.typeInfo t) fun _ => Quiet.pure _
theorem Quiet.isAgg (t : TypeId) : Quiet (isAgg t) := by
  unfold Go.isAgg
  refine Quiet.bind (Quiet.underlying t) fun d => ?_
  split <;> exact Quiet.pure _
theorem Quiet.goPanic {α : Type} (v : Value) : Quiet (goPanic v : Sem α) := fun P w y w' h => by simp at h
theorem Quiet.runtimePanic_bounds {α : Type} (x y : Int) (s : Bool) (c : BoundsCode) : Quiet (runtimePanic (.bounds x y s c) : Sem α) := by
  unfold Go.runtimePanic
  exact Quiet.bind Quiet.program fun _ => Quiet.goPanic _
theorem Quiet.boundsPanic {α : Type} (k : IntKind) (x y : Int) (c : BoundsCode) : Quiet (boundsPanic k x y c : Sem α) := by
  unfold Go.boundsPanic
  dsimp only
  split
  · exact Quiet.bind (Quiet.map _ (Quiet.choose _)) fun _ => Quiet.runtimePanic_bounds _ _ _ _
  · exact Quiet.bind (Quiet.pure _) fun _ => Quiet.runtimePanic_bounds _ _ _ _
theorem Quiet.nilDeref {α : Type} : Quiet (runtimePanic .nilDeref : Sem α) := by
  unfold Go.runtimePanic
  exact Quiet.bind Quiet.program fun _ => Quiet.goPanic _
theorem Quiet.loadCells (a : Addr) : ∀ (n i : Nat) (acc : Array Value), Quiet (loadCellsFrom a i n acc)
  | 0, i, acc => Quiet.pure _
  | n + 1, i, acc => Quiet.bind (Quiet.load _ _) fun v => Quiet.loadCells a n (i + 1) (acc.push v)
theorem Quiet.loadVar (t : TypeId) (a : Addr) : Quiet (loadVar t a) := by
  unfold Go.loadVar
  refine Quiet.bind (Quiet.isAgg t) fun b => ?_
  split
  · exact Quiet.bind (Quiet.sizeOf t) fun n => Quiet.bind (Quiet.loadCells a n 0 #[]) fun _ => Quiet.pure _
  · exact Quiet.load _ _
theorem Quiet.sureAddr (v : Value) : Quiet (Instr.sureAddr v) := by
  unfold Instr.sureAddr
  split
  · exact Quiet.pure _
  · exact Quiet.stuck _
theorem Quiet.asIntOf (v : Value) : Quiet (asIntOf v) := by
  unfold Go.asIntOf
  split
  · exact Quiet.pure _
  · exact Quiet.uns _
  · exact Quiet.stuck _
theorem Quiet.part (t : TypeId) (cs : Array Value) (off : Nat) : Quiet (part t cs off) := by
  unfold Go.part
  refine Quiet.bind (Quiet.isAgg t) fun b => ?_
  split
  · exact Quiet.bind (Quiet.sizeOf t) fun _ => Quiet.pure _
  · split
    · exact Quiet.pure _
    · exact Quiet.stuck _
theorem Quiet.asAgg (v : Value) : Quiet (asAgg v) := by
  unfold Go.asAgg
  split
  · exact Quiet.pure _
  · exact Quiet.stuck _
theorem Quiet.field (t : TypeId) (x : Value) (f : Nat) : Quiet (Instr.field t x f) := by
  unfold Instr.field
  refine Quiet.bind (Quiet.underlying t) fun d => ?_
  split
  · split
    · exact Quiet.bind (Quiet.asAgg x) fun _ => Quiet.part _ _ _
    · exact Quiet.stuck _
  · exact Quiet.stuck _
theorem Quiet.extract (x : Value) (i : Nat) : Quiet (Instr.extract x i) := by
  unfold Instr.extract
  split
  · split
    · exact Quiet.pure _
    · exact Quiet.stuck _
  · exact Quiet.stuck _
theorem Quiet.indexAt (t : TypeId) (x i : Value) : Quiet (Instr.indexAt t x i) := by
  unfold Instr.indexAt
  refine Quiet.bind (Quiet.asIntOf i) fun ki => ?_
  obtain ⟨k, i⟩ := ki
  refine Quiet.bind (Quiet.underlying t) fun d => ?_
  dsimp only
  have tail : ∀ (base : Option Addr) (len : Nat) (elem : TypeId), Quiet (do
        let __do_lift ← Go.underlying t
        have tiny : Bool :=
          decide (len ≤ 1) &&
            match __do_lift with
            | TypeDesc.array len elem => true
            | x => false
        match base with
          | some a =>
            if 0 ≤ i ∧ i < ↑len then do
              let __do_lift ← Go.sizeOf elem
              Pure.pure (Value.pointer (some (a.add (i.toNat * __do_lift))))
            else
              if tiny = true then
                unsupported
                  (Unsupported.noEntry "op/indexAddr.an index out of range at an array of length 0 or 1 (ledger 616)")
              else Go.boundsPanic k i (↑len) BoundsCode.index
          | none => Go.boundsPanic k i 0 BoundsCode.index : Sem Value) := fun base len elem => by
    refine Quiet.bind (Quiet.underlying t) fun d => ?_
    dsimp only
    cases base with
    | some a => exact Quiet.ite (Quiet.bind (Quiet.sizeOf _) fun _ => Quiet.pure _) (Quiet.ite (Quiet.uns _) (Quiet.boundsPanic _ _ _ _))
    | none => exact Quiet.boundsPanic _ _ _ _
  split
  · exact Quiet.bind (Quiet.sureAddr _) fun a => Quiet.bind (Quiet.pure _) fun p => tail _ _ _
  · exact Quiet.bind (Quiet.pure _) fun p => tail _ _ _
  · exact Quiet.bind (Quiet.stuck _) fun p => tail _ _ _
theorem Quiet.newRow (t : TypeId) (c : Array Value) : Quiet (newRow t c) := Quiet.bind (Quiet.newObj _) fun _ => Quiet.pure _
theorem Quiet.newVar (t : TypeId) (v : Value) : Quiet (newVar t v) := Quiet.newRow _ _
theorem Quiet.zeroValue (t : TypeId) : Quiet (zeroValue t) := by
  unfold Go.zeroValue
  refine Quiet.bind (Quiet.typeInfo t) fun d => ?_
  split
  · exact Quiet.pure _
  · exact Quiet.uns _
theorem Quiet.alloc (t : TypeId) : Quiet (Instr.alloc t true (.tuple #[])) := by
  unfold Instr.alloc
  exact Quiet.bind (Quiet.zeroValue t) fun z => Quiet.bind (Quiet.newVar _ _) fun _ => Quiet.pure _
theorem Quiet.box (t : TypeId) (v : Value) : Quiet (Instr.box t v) := Quiet.bind (Quiet.newVar _ _) fun _ => Quiet.pure _
theorem Quiet.buildSlice (t : TypeId) (len : Nat) (parts : Array (Nat × Value)) : Quiet (Instr.buildSlice t len parts) := by
  have tail : ∀ (elem size : Nat) (zero : Array Value), Quiet (match Instr.fill (fun i => some (i * size, size)) ((Array.range (len * size)).map (zero[· % zero.size]!)) parts.toList with
      | some cells => (Go.newRow elem cells >>= fun a => Pure.pure (Value.slice (some a) len len) : Sem Value)
      | _ => Go.stuck "buildSlice: a part of the wrong size") := fun elem size zero => by
    split
    · exact Quiet.bind (Quiet.newRow _ _) fun _ => Quiet.pure _
    · exact Quiet.stuck _
  unfold Instr.buildSlice
  refine Quiet.bind (Quiet.underlying t) fun d => ?_
  split
  · refine Quiet.bind (Quiet.sizeOf _) fun size => ?_
    dsimp only
    split
    · exact Quiet.bind (Quiet.uns _) fun _ => by
        split
        · exact Quiet.bind (Quiet.pure _) fun _ => tail _ _ _
        · first
            | exact Quiet.bind (s := Go.zeroValue _) (Quiet.zeroValue _) fun z => Quiet.bind (Quiet.pure _) fun _ => tail _ _ _
            | exact Quiet.bind (Quiet.bind (s := Go.zeroValue _) (Quiet.zeroValue _) fun z => Quiet.pure _) fun _ => tail _ _ _
    · split
      · exact Quiet.bind (Quiet.pure _) fun _ => tail _ _ _
      · first
          | exact Quiet.bind (s := Go.zeroValue _) (Quiet.zeroValue _) fun z => Quiet.bind (Quiet.pure _) fun _ => tail _ _ _
          | exact Quiet.bind (Quiet.bind (s := Go.zeroValue _) (Quiet.zeroValue _) fun z => Quiet.pure _) fun _ => tail _ _ _
  · exact Quiet.stuck _
def Next.isVal (n : Next) : Bool := match n with | .value _ => true | _ => false
/-- A quiet operation that ends yields a value, and the heap is as it was. -/
theorem quietOp_run {P : Program} {o : Oper} {ρ : Operand → Value} (h : quietOp o.op = true) {w w' : World} {nx : Next} (hr : (execOp ρ o).run P w = .ok nx w') :
    Ext w.heap w'.heap ∧ Next.isVal nx = true := by
  obtain ⟨dst, op, type, pos, after, guard⟩ := o
  have lift : ∀ {s : Sem Value}, Quiet s → (do pure (.value (← s)) : Sem Next).run P w = .ok nx w' → Ext w.heap w'.heap ∧ Next.isVal nx = true := by
    intro s hs hr
    rw [Sem.run_bind] at hr
    cases hv : s.run P w with
    | ok x w1 => rw [hv] at hr; cases hr; exact ⟨hs P w x _ hv, rfl⟩
    | halt x w1 => rw [hv] at hr; cases hr
  cases op <;> simp [quietOp] at h
  case load t a => exact lift (Quiet.bind (Quiet.sureAddr _) fun _ => Quiet.loadVar _ _) hr
  case move x => cases hr; exact ⟨Ext.refl _, rfl⟩
  case assign x => cases hr; exact ⟨Ext.refl _, rfl⟩
  case alloc t => exact lift (Quiet.alloc t) hr
  case box t x => exact lift (Quiet.box t _) hr
  case buildSlice t n ps => exact lift (Quiet.buildSlice _ _ _) hr
  case indexAddr t x i => exact lift (Quiet.indexAt _ _ _) hr
  case extract x i => exact lift (Quiet.extract _ _) hr
  case field t x f => exact lift (Quiet.field _ _ _) hr

section
variable {P : Program} {ops : Array Oper} {Q : Exit → Act → World → Prop} {md : Region.Mode}
theorem wpOp_quiet {j : Nat} {oj : Oper} (hj : ops[j]? = some oj) (hq : quietOp oj.op = true) (hQ : ∀ c a w, ¬ Q (.panic c) a w) (hO : ∀ a w, ¬ Q .outgrown a w) {K : Act → World → Prop} {a : Act} {w : World}
    (h : wpOp P ops Q j K a w) : wpOp P ops Q j (fun a' w' => K a' w' ∧ Ext w.heap w'.heap) a w := by
  unfold wpOp at *
  simp only [hj] at *
  split
  · rename_i hw
    simp only [hw, if_true] at h
    rcases h with h | ⟨_, a0, w0, h0⟩
    · refine .inl ?_
      unfold Oper.wp at *
      generalize hr : (execOp a.eval oj).run P w = r at *
      cases r with
      | ok nx w' =>
        obtain ⟨h1, h2⟩ := quietOp_run hq hr
        cases nx <;> simp [Next.isVal] at h2
        exact ⟨h, h1⟩
      | halt x w' =>
        cases x <;> simp only [Oper.upon] at h ⊢
        exact (hQ _ _ _ h).elim
    · exact (hO _ _ h0).elim
  · rename_i hw
    simp only [hw] at h
    exact ⟨h, Ext.refl _⟩
/-- An operation that yields its value in every world of this heap may be taken first, where whoever may come before it is quiet. -/
theorem wpAny_firstH {i : Nat} {oi : Oper} {v : Value} (hi : ops[i]? = some oi) (hsel : ∀ (j : Nat) (o : Oper) cs b, ops[j]? = some o → o.op ≠ .select cs b)
    (hQ : ∀ c a w, ¬ Q (.panic c) a w) (hO : ∀ a w, ¬ Q .outgrown a w) (h0 : Array Obj) (Bk : Nat → Prop)
    (hBk : ∀ j oj, ops[j]? = some oj → Bk j → ∃ e ∈ oj.after, Region.binds md e = true ∧ (e.on = i ∨ Bk e.on)) :
    ∀ (fuel : Nat) (listed : Array Bool) (a : Act) (w : World),
      (∀ j oj, ops[j]? = some oj → j ≠ i → listed.getD j true = false → (∀ e ∈ oj.after, Region.binds md e = true → e.on ≠ i) → oi.apart ops oj = true) →
      (∀ j oj, ops[j]? = some oj → j ≠ i → listed.getD j true = false → Bk j ∨ quietOp oj.op = true) →
      (∀ j, Bk j → listed.getD j false = false) →
      i ∈ Region.ready md ops listed → YieldsIf P ops (fun w => Ext h0 w.heap) oi v a → Ext h0 w.heap →
      wpAny P md ops Q fuel (listed.setIfInBounds i true) (a.put oi.dst v) w → wpAny P md ops Q (fuel + 1) listed a w := by
  intro fuel
  induction fuel with
  | zero =>
    intro listed a w _ _ _ hr hy hS H
    refine ⟨fun h => (by rw [h] at hr; cases hr), fun j hj => ?_⟩
    by_cases hji : j = i
    · subst hji; exact hy.wpOp hi hS H
    · have := ready_mono hj hji
      rw [H.1] at this
      cases this
  | succ fuel ih =>
    intro listed a w hfree hqu hbk hr hy hS H
    refine ⟨fun h => (by rw [h] at hr; cases hr), fun j hj => ?_⟩
    by_cases hji : j = i
    · subst hji; exact hy.wpOp hi hS H
    · have h1 := H.2 j (ready_mono hj hji)
      obtain ⟨hjun, oj, hoj, hall⟩ := mem_ready.1 hj
      have hnot : ∀ e ∈ oj.after, Region.binds md e = true → e.on ≠ i := fun e he hb heq => by
        have h1 := hall e he hb
        have h0 := (mem_ready.1 hr).1
        rw [heq] at h1
        rcases Nat.lt_or_ge i listed.size with h' | h'
        · simp [h'] at h0 h1; rw [h0] at h1; cases h1
        · simp [Array.getElem?_eq_none h'] at h1
      have hnb : ¬ Bk j := fun hb => by
        obtain ⟨e, he, hbd, h | h⟩ := hBk j oj hoj hb
        · exact hnot e he hbd h
        · have h1 := hall e he hbd
          rw [hbk _ h] at h1; cases h1
      have hquiet : quietOp oj.op = true := (hqu j oj hoj hji hjun).resolve_left hnb
      have h2 := wpOp_putIf (S := fun w => Ext h0 w.heap) hoj (hfree j oj hoj hji hjun hnot) (fun cs b => hsel i oi cs b hi) (fun cs b => hsel j oj cs b hoj) (fun c a w h => (hQ _ _ _ h).elim) hy h1
      have h2' := wpOp_quiet hoj hquiet hQ hO h2
      have hfree' : ∀ k ok, ops[k]? = some ok → k ≠ i → (listed.setIfInBounds j true).getD k true = false →
          (∀ e ∈ ok.after, Region.binds md e = true → e.on ≠ i) → oi.apart ops ok = true := fun k ok hk hki hun hno => by
        refine hfree k ok hk hki ?_ hno
        by_cases hjk : j = k
        · subst hjk; exact hjun
        · rw [getD_set_ne true hjk] at hun; exact hun
      have hqu' : ∀ k ok, ops[k]? = some ok → k ≠ i → (listed.setIfInBounds j true).getD k true = false → Bk k ∨ quietOp ok.op = true := fun k ok hk hki hun => by
        refine hqu k ok hk hki ?_
        by_cases hjk : j = k
        · subst hjk; exact hjun
        · rw [getD_set_ne true hjk] at hun; exact hun
      have hbk' : ∀ k, Bk k → (listed.setIfInBounds j true).getD k false = false := fun k hb => by
        have hjk : j ≠ k := fun e => hnb (e ▸ hb)
        rw [getD_set_ne false hjk]; exact hbk k hb
      refine wpOp_mono (fun a' w' h3 => ih (listed.setIfInBounds j true) a' w' hfree' hqu' hbk' (ready_mono hr (Ne.symm hji)) h3.1.1 (hS.trans h3.2) ?_) h2'
      rw [Array.setIfInBounds_comm _ _ hji]
      exact h3.1.2
end
end Go.Eng
