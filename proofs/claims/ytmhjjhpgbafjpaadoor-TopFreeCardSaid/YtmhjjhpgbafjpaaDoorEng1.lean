import Derived.WalkKit
import Derived.OrdersHeld
import Derived.KernelRfl
set_option linter.unusedVariables false
namespace Go.Eng
open Go

/-! ### Environments -/
abbrev Env := Nat → Value
def up (ρ : Env) (d : Nat) (v : Value) : Env := fun i => match Nat.beq i d with | true => v | false => ρ i
def upo (ρ : Env) (d : Option Tmp) (v : Value) : Env := match d with | some d => up ρ d v | none => ρ
def ev (ρ : Env) (x : Operand) : Value := match x with
  | .tmp t => ρ t
  | .const v => v
  | .global g => .pointer (some ⟨g, 0, none⟩)
  | .func f => .func (.func f) #[] #[]
theorem up_self (ρ : Env) (d : Nat) : up ρ d (ρ d) = ρ := by
  funext i; unfold up; cases h : Nat.beq i d
  · rfl
  · have := Nat.eq_of_beq_eq_true h; subst this; rfl
theorem up_at (ρ : Env) (d : Nat) (v : Value) : up ρ d v d = v := by simp [up]
theorem up_ne (ρ : Env) {d i : Nat} (v : Value) (h : i ≠ d) : up ρ d v i = ρ i := by
  have : Nat.beq i d = false := by
    cases hb : Nat.beq i d
    · rfl
    · exact absurd (Nat.eq_of_beq_eq_true hb) h
  simp [up, this]

structure At (n : Nat) (a : Act) (ρ : Env) : Prop where
  size : a.tmps.size = n
  defers : a.defers = []
  get : ∀ t, a.tmps.getD t undef = ρ t
theorem At.eval {n : Nat} {a : Act} {ρ : Env} (h : At n a ρ) : a.eval = ev ρ := by
  funext x; cases x <;> simp only [Act.eval, ev]; exact h.get _
theorem At.put {n : Nat} {a : Act} {ρ : Env} {d : Option Tmp} (h : At n a ρ) (hd : ∀ t, d = some t → t < n) (v : Value) : At n (a.put d v) (upo ρ d v) := by
  cases d with
  | none => exact h
  | some d =>
    have hlt := hd d rfl
    refine ⟨by simpa [Act.put] using h.size, by simpa [Act.put] using h.defers, fun t => ?_⟩
    simp only [Act.put, upo]
    by_cases e : t = d
    · subst e
      rw [up_at]
      have : t < a.tmps.size := by rw [h.size]; exact hlt
      simp [Array.getD, this]
    · rw [up_ne _ _ e, ← h.get t]
      simp [Array.getD_eq_getD_getElem?, Array.getElem?_setIfInBounds_ne (Ne.symm e)]

/-! ### The true meaning, over environments -/
def wE (P : Program) (n : Nat) (c : Code) (Q : Exit → Env → World → Prop) (ρ : Env) (w : World) : Prop :=
  ∀ a, At n a ρ → c.wp P (fun e a' w' => ∃ ρ', At n a' ρ' ∧ Q e ρ' w') a w
def thenE (next : Env → World → Prop) (Q : Exit → Env → World → Prop) (e : Exit) (ρ : Env) (w : World) : Prop :=
  match e with
  | .normal => next ρ w
  | .exit id => Q (.exit id) ρ w
  | .ret => Q .ret ρ w
  | _ => False
def blkE (id : Nat) (Q : Exit → Env → World → Prop) (e : Exit) (ρ : Env) (w : World) : Prop :=
  match e with
  | .normal => Q .normal ρ w
  | .exit id' => match Nat.beq id' id with | true => Q .normal ρ w | false => Q (.exit id') ρ w
  | .ret => Q .ret ρ w
  | _ => False
theorem wE_mono {P : Program} {n : Nat} {c : Code} {Q Q' : Exit → Env → World → Prop} {ρ : Env} {w : World} (h : wE P n c Q ρ w) (hq : ∀ e ρ w, Q e ρ w → Q' e ρ w) : wE P n c Q' ρ w :=
  fun a ha => Code.wp_mono (fun e a' w' ⟨ρ', h1, h2⟩ => ⟨ρ', h1, hq _ _ _ h2⟩) (h a ha)
section
variable {P : Program} {n : Nat} {Q : Exit → Env → World → Prop} {ρ : Env} {w : World}
theorem wE_skip (h : Q .normal ρ w) : wE P n .skip Q ρ w := fun a ha => wp_skip ⟨ρ, ha, h⟩
theorem wE_exit {id : Nat} (h : Q (.exit id) ρ w) : wE P n (.exit id) Q ρ w := fun a ha => wp_exit ⟨ρ, ha, h⟩
theorem wE_ret (h : Q .ret ρ w) : wE P n .ret Q ρ w := fun a ha => wp_ret ⟨ρ, ha, h⟩
theorem wE_seq {x y : Code} (h : wE P n x (thenE (wE P n y Q) Q) ρ w) : wE P n (.seq x y) Q ρ w := by
  intro a ha
  refine wp_seq (Code.wp_mono (fun e a' w' ⟨ρ', h1, h2⟩ => ?_) (h a ha))
  cases e <;> simp only [thenE, Exit.then] at h2 ⊢
  · exact h2 a' h1
  · exact ⟨ρ', h1, h2⟩
  · exact ⟨ρ', h1, h2⟩
theorem wE_cond {c : Operand} {x y : Code} {b : Bool} (hc : ev ρ c = .bool b) (h : wE P n (if b then x else y) Q ρ w) : wE P n (.cond c x y) Q ρ w :=
  fun a ha => wp_cond (by rw [ha.eval]; exact hc) (h a ha)
theorem wE_block {id : Nat} {c : Code} (h : wE P n c (blkE id Q) ρ w) : wE P n (.block id c) Q ρ w := by
  intro a ha
  refine wp_block (Code.wp_mono (fun e a' w' ⟨ρ', h1, h2⟩ => ?_) (h a ha))
  cases e with
  | normal => exact ⟨ρ', h1, h2⟩
  | ret => exact ⟨ρ', h1, h2⟩
  | exit id' =>
    simp only [blkE, Exit.inBlock] at h2 ⊢
    split
    · rename_i e; subst e; exact ⟨ρ', h1, by simpa using h2⟩
    · rename_i e
      have : Nat.beq id' id = false := by
        cases hb : Nat.beq id' id
        · rfl
        · exact absurd (Nat.eq_of_beq_eq_true hb) e
      rw [this] at h2
      exact ⟨ρ', h1, h2⟩
  | goto l => exact h2.elim
  | panic c => exact h2.elim
  | outgrown => exact h2.elim
theorem wE_loop {c : Code} (I : Env → World → Prop) (μ : Env → World → Nat) (h0 : I ρ w)
    (hr : ∀ ρ w, I ρ w → wE P n c (thenE (fun ρ' w' => I ρ' w' ∧ μ ρ' w' < μ ρ w) Q) ρ w) : wE P n (.loop c) Q ρ w := by
  intro a ha
  let M : Act → World → Nat := fun a w => μ (fun t => a.tmps.getD t undef) w
  have key : ∀ {a : Act} {ρ : Env}, At n a ρ → (fun t => a.tmps.getD t undef) = ρ := fun h => funext h.get
  refine wp_loop (fun a w => ∃ ρ, At n a ρ ∧ I ρ w) M ⟨ρ, ha, h0⟩ (fun a' w' ⟨ρ', h1, h2⟩ => ?_)
  refine Code.wp_mono (fun e a'' w'' ⟨ρ'', h3, h4⟩ => ?_) (hr ρ' w' h2 a' h1)
  cases e <;> simp only [thenE, Exit.then] at h4 ⊢
  · refine ⟨⟨ρ'', h3, h4.1⟩, ?_⟩
    simp only [M, key h3, key h1]
    exact h4.2
  · exact ⟨ρ'', h3, h4⟩
  · exact ⟨ρ'', h3, h4⟩
end

/-! ### Kinds of values -/
inductive Kd where
  | int (k : IntKind) | bool | string | pointer | slice | map | any | addr
def exK (k : Kd) (K : Value → Prop) : Prop := match k with
  | .int k => ∃ n : Int, K (.int k n)
  | .bool => ∃ b : Bool, K (.bool b)
  | .string => ∃ s : ByteArray, K (.string s)
  | .pointer => ∃ p : Option Addr, K (.pointer p)
  | .slice => ∃ (a : Option Addr) (l c : Nat), K (.slice a l c)
  | .map => ∃ m : Option Nat, K (.map m)
  | .any => ∃ v : Value, K v
  | .addr => ∃ a : Addr, K (.pointer (some a))
theorem exK_out {k : Kd} {K : Value → Prop} (h : exK k K) : ∃ v, K v := by
  cases k <;> simp only [exK] at h
  case slice => obtain ⟨a, l, c, h⟩ := h; exact ⟨_, h⟩
  all_goals (obtain ⟨x, h⟩ := h; exact ⟨_, h⟩)
def kd1 (d : TypeDesc) : Kd := match d with
  | .int k => .int k
  | .bool => .bool
  | .string => .string
  | .pointer _ => .pointer
  | .slice _ => .slice
  | .map _ _ => .map
  | _ => .any
def flat (P : Program) : Nat → TypeId → List Kd
  | 0, _ => [.any]
  | f + 1, t => match P.underlying t with
    | some (.struct fs) => fs.toList.flatMap fun x => flat P f x.type
    | some (.array n e) => (List.replicate n (flat P f e)).flatten
    | some d => [kd1 d]
    | none => [.any]
def exKs : List Kd → (List Value → Prop) → Prop
  | [], K => K []
  | k :: ks, K => exK k fun v => exKs ks fun vs => K (v :: vs)
theorem exKs_out : ∀ {ks : List Kd} {K : List Value → Prop}, exKs ks K → ∃ vs, K vs
  | [], _, h => ⟨_, h⟩
  | _ :: _, _, h => by
    obtain ⟨v, h⟩ := exK_out h
    obtain ⟨vs, h⟩ := exKs_out h
    exact ⟨_, h⟩
def ex1 (P : Program) (t : TypeId) (K : Value → Prop) : Prop := match P.underlying t with
  | some (.struct _) => exKs (flat P 8 t) fun vs => K (.agg ⟨vs⟩)
  | some (.array _ _) => exKs (flat P 8 t) fun vs => K (.agg ⟨vs⟩)
  | some d => exK (kd1 d) K
  | none => False
theorem ex1_out {P : Program} {t : TypeId} {K : Value → Prop} (h : ex1 P t K) : ∃ v, K v := by
  unfold ex1 at h
  split at h
  · obtain ⟨vs, h⟩ := exKs_out h; exact ⟨_, h⟩
  · obtain ⟨vs, h⟩ := exKs_out h; exact ⟨_, h⟩
  · exact exK_out h
  · exact h.elim
def exTs (P : Program) : List TypeId → (List Value → Prop) → Prop
  | [], K => K []
  | t :: ts, K => ex1 P t fun v => exTs P ts fun vs => K (v :: vs)
theorem exTs_out {P : Program} : ∀ {ts : List TypeId} {K : List Value → Prop}, exTs P ts K → ∃ vs, K vs
  | [], _, h => ⟨_, h⟩
  | _ :: _, _, h => by
    obtain ⟨v, h⟩ := ex1_out h
    obtain ⟨vs, h⟩ := exTs_out h
    exact ⟨_, h⟩
/-- Some value of a type (of a tuple's type: a tuple), its parts open. -/
def exT (P : Program) (t : TypeId) (K : Value → Prop) : Prop := match P.underlying t with
  | some (.tuple ts) => exTs P ts.toList fun vs => K (.tuple ⟨vs⟩)
  | _ => ex1 P t K
theorem exT_out {P : Program} {t : TypeId} {K : Value → Prop} (h : exT P t K) : ∃ v, K v := by
  unfold exT at h
  split at h
  · obtain ⟨vs, h⟩ := exTs_out h; exact ⟨_, h⟩
  · exact ex1_out h
end Go.Eng
