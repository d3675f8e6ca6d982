import Derived.Test.YtkighcolplcnbaaProg
import Derived.Test.YtkighcolplcnbaaEng8
set_option linter.unusedVariables false
set_option maxRecDepth 100000
namespace Go.Proofs
open Go Go.Eng
def cal (f : FuncId) : Bool := Nat.ble 3 f && Nat.blt f 31
theorem cal_all : (List.range 31).all (fun f => !cal f || callable Try.prog f) = true := by kernel_rfl
theorem cal_ok (f : FuncId) (h : cal f = true) : callable Try.prog f = true := by
  have hb := h
  simp only [cal, Bool.and_eq_true, Nat.blt_eq] at hb
  have := List.all_eq_true.1 cal_all f (List.mem_range.2 hb.2)
  rw [h] at this
  simpa using this
theorem follows : Try.prog.follows .mixedOrders = true := by kernel_rfl

def S3_ann (p : List Nat) : Option LA := match p with
  | [0, 1, 0, 1, 1, 1, 1, 1, 1] => some ⟨[5, 6, 7, 9, 10, 41, 42], [(43, .one (.int .i64))]⟩
  | [0, 1, 1, 1, 1, 1, 0, 0, 1, 1, 0, 0, 1, 0, 1, 1, 1, 1, 1, 1] => some ⟨[5, 6, 7, 9, 10, 41, 42, 43, 105, 106], [(107, .one (.int .i64))]⟩
  | [0, 1, 1, 1, 1, 0, 1, 1, 1, 0, 1, 0, 1, 0, 0, 1, 1, 0, 0, 1, 0, 1, 1, 1, 1, 1, 1] => some ⟨[5, 6, 7, 9, 10, 15, 41, 42, 43, 86], []⟩
  | _ => none

def S3_nx (t : Nat) : Option (TypeId × TypeId) := match t with
  | 86 => some (3, 3)
  | _ => none

def S3_k8 (head : Bool) (n_ : Int) (q : Option Addr) (prio : Option Nat) (bypass : Option Nat) (t41_a : Option Addr) (t41_l : Nat) (t41_c : Nat) (t42 : Int) (t43 : Int) (t105_a : Option Addr) (t105_l : Nat) (t105_c : Nat) (t106 : Int) (t107 : Int) (t143 : Bool) (w : World) (R : Value → World → Prop) (B1 : (Int) × Unit → World → Prop) (B2 : (Int) × Unit → World → Prop) : Prop :=
  cond t143 (
    R (.bool false) w
  ) (
    B2 ((IntKind.i64.wrap (t107 + 1)), ()) w
  )

def S3_k7 (head : Bool) (n_ : Int) (q : Option Addr) (prio : Option Nat) (bypass : Option Nat) (t41_a : Option Addr) (t41_l : Nat) (t41_c : Nat) (t42 : Int) (t43 : Int) (t105_a : Option Addr) (t105_l : Nat) (t105_c : Nat) (t106 : Int) (t107 : Int) (w : World) (R : Value → World → Prop) (B1 : (Int) × Unit → World → Prop) (B2 : (Int) × Unit → World → Prop) : Prop :=
  ∃ (t109 : Addr),
  t105_a = some t109 ∧
  0 ≤ (t107 : Int) ∧
  (t107 : Int) < ((t105_l : Nat) : Int) ∧
  ∃ (t110_0 : Int),
  w.cell? (t109.add (Int.toNat t107 * 3)) = some (.int .i64 t110_0) ∧
  ∃ (t110_1 : Int),
  w.cell? ((t109.add (Int.toNat t107 * 3)).add 1) = some (.int .i64 t110_1) ∧
  ∃ (t110_2 : Int),
  w.cell? ((t109.add (Int.toNat t107 * 3)).add 2) = some (.int .i64 t110_2) ∧
  (∃ u, (w.alloc (.cells ⟨[(.int .i64 0), (.int .i64 0), (.int .i64 0)]⟩ 40)).cell? ⟨w.heap.size, 0, none⟩ = some u) ∧
  (w.alloc (.cells ⟨[(.int .i64 0), (.int .i64 0), (.int .i64 0)]⟩ 40)).frozen? ⟨w.heap.size, 0, none⟩ = false ∧
  (∃ u, ((w.alloc (.cells ⟨[(.int .i64 0), (.int .i64 0), (.int .i64 0)]⟩ 40)).setCell ⟨w.heap.size, 0, none⟩ (.int .i64 t110_0)).cell? ⟨w.heap.size, 1, none⟩ = some u) ∧
  ((w.alloc (.cells ⟨[(.int .i64 0), (.int .i64 0), (.int .i64 0)]⟩ 40)).setCell ⟨w.heap.size, 0, none⟩ (.int .i64 t110_0)).frozen? ⟨w.heap.size, 1, none⟩ = false ∧
  (∃ u, (((w.alloc (.cells ⟨[(.int .i64 0), (.int .i64 0), (.int .i64 0)]⟩ 40)).setCell ⟨w.heap.size, 0, none⟩ (.int .i64 t110_0)).setCell ⟨w.heap.size, 1, none⟩ (.int .i64 t110_1)).cell? ⟨w.heap.size, 2, none⟩ = some u) ∧
  (((w.alloc (.cells ⟨[(.int .i64 0), (.int .i64 0), (.int .i64 0)]⟩ 40)).setCell ⟨w.heap.size, 0, none⟩ (.int .i64 t110_0)).setCell ⟨w.heap.size, 1, none⟩ (.int .i64 t110_1)).frozen? ⟨w.heap.size, 2, none⟩ = false ∧
  ∃ (t114 : Int),
  ((((w.alloc (.cells ⟨[(.int .i64 0), (.int .i64 0), (.int .i64 0)]⟩ 40)).setCell ⟨w.heap.size, 0, none⟩ (.int .i64 t110_0)).setCell ⟨w.heap.size, 1, none⟩ (.int .i64 t110_1)).setCell ⟨w.heap.size, 2, none⟩ (.int .i64 t110_2)).cell? ⟨w.heap.size, 0, none⟩ = some (.int .i64 t114) ∧
  ∃ (t115_0 : Int) (t115_1 : Bool) (w_ : World),
  (Instr.lookup 28 (.map bypass) (.int .i64 t114) true).run Try.prog ((((w.alloc (.cells ⟨[(.int .i64 0), (.int .i64 0), (.int .i64 0)]⟩ 40)).setCell ⟨w.heap.size, 0, none⟩ (.int .i64 t110_0)).setCell ⟨w.heap.size, 1, none⟩ (.int .i64 t110_1)).setCell ⟨w.heap.size, 2, none⟩ (.int .i64 t110_2)) = .ok (.tuple ⟨[(.int .i64 t115_0), (.bool t115_1)]⟩) w_ ∧
  cond (!t115_1) (
    S3_k8 head n_ q prio bypass t41_a t41_l t41_c t42 t43 t105_a t105_l t105_c t106 t107 true w_ R B1 B2
  ) (
    ∃ (t123 : Int),
    w_.cell? ⟨w.heap.size, 2, none⟩ = some (.int .i64 t123) ∧
    cond (!decide ((t115_0 : Int) = t123)) (
      S3_k8 head n_ q prio bypass t41_a t41_l t41_c t42 t43 t105_a t105_l t105_c t106 t107 true w_ R B1 B2
    ) (
      ∃ (t128 : Int),
      w_.cell? ⟨w.heap.size, 1, none⟩ = some (.int .i64 t128) ∧
      ∃ (t131 : Int),
      w_.cell? ⟨w.heap.size, 0, none⟩ = some (.int .i64 t131) ∧
      ∃ (t132 : Int) (w__1 : World),
      (Instr.lookup 28 (.map prio) (.int .i64 t131) false).run Try.prog w_ = .ok (.int .i64 t132) w__1 ∧
      cond (!decide ((t128 : Int) = t132)) (
        S3_k8 head n_ q prio bypass t41_a t41_l t41_c t42 t43 t105_a t105_l t105_c t106 t107 true w__1 R B1 B2
      ) (
        ∃ (t139 : Int),
        w__1.cell? ⟨w.heap.size, 1, none⟩ = some (.int .i64 t139) ∧
        S3_k8 head n_ q prio bypass t41_a t41_l t41_c t42 t43 t105_a t105_l t105_c t106 t107 (decide (((IntKind.i64.wrap (n_ * (IntKind.i64.wrap (5 - t139)))) : Int) < t115_0)) w__1 R B1 B2
      )
    )
  )

def S3_L6 (head : Bool) (n_ : Int) (q : Option Addr) (prio : Option Nat) (bypass : Option Nat) (t41_a : Option Addr) (t41_l : Nat) (t41_c : Nat) (t42 : Int) (t43 : Int) (t105_a : Option Addr) (t105_l : Nat) (t105_c : Nat) (t106 : Int) (t107 : Int) (w : World) (R : Value → World → Prop) (B1 : (Int) × Unit → World → Prop) (B2 : (Int) × Unit → World → Prop) : Prop :=
  cond (decide ((t107 : Int) < t106)) (
    S3_k7 head n_ q prio bypass t41_a t41_l t41_c t42 t43 t105_a t105_l t105_c t106 t107 w R B1 B2
  ) (
    B1 ((IntKind.i64.wrap (t43 + 1)), ()) w
  )

def S3_k5 (head : Bool) (n_ : Int) (q : Option Addr) (prio : Option Nat) (bypass : Option Nat) (all_a : Option Addr) (all_l : Nat) (all_c : Nat) (t41_a : Option Addr) (t41_l : Nat) (t41_c : Nat) (t42 : Int) (t43 : Int) (w : World) (R : Value → World → Prop) (B1 : (Int) × Unit → World → Prop) : Prop :=
  ∃ (I : (Int) × Unit → World → Prop) (μ : (Int) × Unit → World → Nat),
  I (0, ()) w ∧
  ∀ (J : Env) (s : (Int) × Unit) (w' : World), I s w' →
    S3_L6 head n_ q prio bypass t41_a t41_l t41_c t42 t43 all_a all_l all_c ((all_l : Nat) : Int) s.1 w' R B1 (fun s' w'' => I s' w'' ∧ μ s' w'' < μ s w')

def S3_k4 (head : Bool) (n_ : Int) (q : Option Addr) (prio : Option Nat) (bypass : Option Nat) (t41_a : Option Addr) (t41_l : Nat) (t41_c : Nat) (t42 : Int) (t43 : Int) (w : World) (R : Value → World → Prop) (B1 : (Int) × Unit → World → Prop) : Prop :=
  Calls Try.prog 15 ⟨[(.pointer q)]⟩ w fun e w_ =>
    ∃ (t99_a : Option Addr) (t99_l : Nat) (t99_c : Nat),
    e = .returned (.slice t99_a t99_l t99_c) ∧
    ∃ (t103 : Int) (w__1 : World),
    (Builtin.len_ #[28] 3 ⟨[(.map bypass)]⟩).run Try.prog w_ = .ok (.int .i64 t103) w__1 ∧
    cond (!decide ((((t99_l : Nat) : Int) : Int) = t103)) (
      R (.bool false) w__1
    ) (
      S3_k5 head n_ q prio bypass t99_a t99_l t99_c t41_a t41_l t41_c t42 t43 w__1 R B1
    )

def S3_k11 (head : Bool) (n_ : Int) (q : Option Addr) (prio : Option Nat) (bypass : Option Nat) (id : Int) (t41_a : Option Addr) (t41_l : Nat) (t41_c : Nat) (t42 : Int) (t43 : Int) (t86 : Addr) (w : World) (R : Value → World → Prop) (B1 : (Int) × Unit → World → Prop) (B2 : Unit → World → Prop) : Prop :=
  ∃ (t89_k : Int) (t89_v : Int) (w_ : World),
  (Instr.entry (.pointer (some t86))).run Try.prog w = .ok (.tuple ⟨[(.int .i64 t89_k), (.int .i64 t89_v)]⟩) w_ ∧
  cond (decide ((t89_k : Int) < id)) (
    ∃ (t96 : Int) (w__1 : World),
    (Instr.lookup 28 (.map bypass) (.int .i64 t89_k) false).run Try.prog w_ = .ok (.int .i64 t96) w__1 ∧
    ∃ (w__2 : World),
    (Instr.mapUpdate 28 (.map bypass) (.int .i64 t89_k) (.int .i64 (IntKind.i64.wrap (t96 + 1)))).run Try.prog w__1 = .ok () w__2 ∧
    B2 (()) w__2
  ) (
    B2 (()) w_
  )

def S3_L10 (head : Bool) (n_ : Int) (q : Option Addr) (prio : Option Nat) (bypass : Option Nat) (id : Int) (t41_a : Option Addr) (t41_l : Nat) (t41_c : Nat) (t42 : Int) (t43 : Int) (t86 : Addr) (w : World) (R : Value → World → Prop) (B1 : (Int) × Unit → World → Prop) (B2 : Unit → World → Prop) : Prop :=
  (
    ∃ (w_ : World),
    (Instr.next (.pointer (some t86)) false 0).run Try.prog w = .ok (.tuple ⟨[(.bool false)]⟩) w_ ∧
    S3_k4 head n_ q prio bypass t41_a t41_l t41_c t42 t43 w_ R B1
  ) ∨ (
    ∃ (t87_k : Int) (t87_v : Int) (w__1 : World),
    (Instr.next (.pointer (some t86)) false 0).run Try.prog w = .ok (.tuple ⟨[(.bool true), (.int .i64 t87_k), (.int .i64 t87_v)]⟩) w__1 ∧
    S3_k11 head n_ q prio bypass id t41_a t41_l t41_c t42 t43 t86 w__1 R B1 B2
  )

def S3_k9 (head : Bool) (n_ : Int) (q : Option Addr) (prio : Option Nat) (bypass : Option Nat) (id : Int) (t41_a : Option Addr) (t41_l : Nat) (t41_c : Nat) (t42 : Int) (t43 : Int) (w : World) (R : Value → World → Prop) (B1 : (Int) × Unit → World → Prop) : Prop :=
  ∃ (w_ : World),
  (Builtin.delete_ #[28, 3] 0 ⟨[(.map bypass), (.int .i64 id)]⟩).run Try.prog w = .ok (.tuple ⟨[]⟩) w_ ∧
  ∃ (w__1 : World),
  (Instr.range 28 (.map bypass)).run Try.prog w_ = .ok (.pointer (some ⟨w_.heap.size, 0, none⟩)) w__1 ∧
  ∃ (I : Unit → World → Prop) (μ : Unit → World → Nat),
  I (()) w__1 ∧
  ∀ (J : Env) (s : Unit) (w' : World), I s w' →
    S3_L10 head n_ q prio bypass id t41_a t41_l t41_c t42 t43 ⟨w_.heap.size, 0, none⟩ w' R B1 (fun s' w'' => I s' w'' ∧ μ s' w'' < μ s w')

def S3_k3 (head : Bool) (n_ : Int) (q : Option Addr) (prio : Option Nat) (bypass : Option Nat) (t41_a : Option Addr) (t41_l : Nat) (t41_c : Nat) (t42 : Int) (t43 : Int) (w : World) (R : Value → World → Prop) (B1 : (Int) × Unit → World → Prop) : Prop :=
  ∃ (t45 : Addr),
  t41_a = some t45 ∧
  0 ≤ (t43 : Int) ∧
  (t43 : Int) < ((t41_l : Nat) : Int) ∧
  ∃ (t46_0 : Int),
  w.cell? (t45.add (Int.toNat t43 * 2)) = some (.int .u8 t46_0) ∧
  ∃ (t46_1 : Int),
  w.cell? ((t45.add (Int.toNat t43 * 2)).add 1) = some (.int .i64 t46_1) ∧
  (∃ u, (w.alloc (.cells ⟨[(.int .u8 0), (.int .i64 0)]⟩ 31)).cell? ⟨w.heap.size, 0, none⟩ = some u) ∧
  (w.alloc (.cells ⟨[(.int .u8 0), (.int .i64 0)]⟩ 31)).frozen? ⟨w.heap.size, 0, none⟩ = false ∧
  (∃ u, ((w.alloc (.cells ⟨[(.int .u8 0), (.int .i64 0)]⟩ 31)).setCell ⟨w.heap.size, 0, none⟩ (.int .u8 t46_0)).cell? ⟨w.heap.size, 1, none⟩ = some u) ∧
  ((w.alloc (.cells ⟨[(.int .u8 0), (.int .i64 0)]⟩ 31)).setCell ⟨w.heap.size, 0, none⟩ (.int .u8 t46_0)).frozen? ⟨w.heap.size, 1, none⟩ = false ∧
  ∃ (t48 : Int),
  (((w.alloc (.cells ⟨[(.int .u8 0), (.int .i64 0)]⟩ 31)).setCell ⟨w.heap.size, 0, none⟩ (.int .u8 t46_0)).setCell ⟨w.heap.size, 1, none⟩ (.int .i64 t46_1)).cell? ⟨w.heap.size, 0, none⟩ = some (.int .u8 t48) ∧
  (3 : Int) ≠ 0 ∧
  cond (decide (((Int.tmod t48 3) : Int) = 0)) (
    ∃ (t62 : Int),
    (((w.alloc (.cells ⟨[(.int .u8 0), (.int .i64 0)]⟩ 31)).setCell ⟨w.heap.size, 0, none⟩ (.int .u8 t46_0)).setCell ⟨w.heap.size, 1, none⟩ (.int .i64 t46_1)).cell? ⟨w.heap.size, 1, none⟩ = some (.int .i64 t62) ∧
    Calls Try.prog 12 ⟨[(.pointer q), (.int .i64 t62)]⟩ (((w.alloc (.cells ⟨[(.int .u8 0), (.int .i64 0)]⟩ 31)).setCell ⟨w.heap.size, 0, none⟩ (.int .u8 t46_0)).setCell ⟨w.heap.size, 1, none⟩ (.int .i64 t46_1)) fun e w_ =>
      ∃ (t63_0 : Int) (t63_1 : Int),
      e = .returned (.tuple ⟨[(.int .i64 t63_0), (.int .i64 t63_1)]⟩) ∧
      cond (decide ((t63_1 : Int) = 0)) (
        ∃ (t73 : Int),
        w_.cell? ⟨w.heap.size, 1, none⟩ = some (.int .i64 t73) ∧
        ∃ (w__1 : World),
        (Instr.mapUpdate 28 (.map prio) (.int .i64 t63_0) (.int .i64 t73)).run Try.prog w_ = .ok () w__1 ∧
        ∃ (w__2 : World),
        (Instr.mapUpdate 28 (.map bypass) (.int .i64 t63_0) (.int .i64 0)).run Try.prog w__1 = .ok () w__2 ∧
        S3_k4 head n_ q prio bypass t41_a t41_l t41_c t42 t43 w__2 R B1
      ) (
        S3_k4 head n_ q prio bypass t41_a t41_l t41_c t42 t43 w_ R B1
      )
  ) (
    cond (decide (((Int.tmod t48 3) : Int) = 1)) (
      Calls Try.prog 13 ⟨[(.pointer q)]⟩ (((w.alloc (.cells ⟨[(.int .u8 0), (.int .i64 0)]⟩ 31)).setCell ⟨w.heap.size, 0, none⟩ (.int .u8 t46_0)).setCell ⟨w.heap.size, 1, none⟩ (.int .i64 t46_1)) fun e w__3 =>
        ∃ (t78_0 : Int) (t78_1 : Bool),
        e = .returned (.tuple ⟨[(.int .i64 t78_0), (.bool t78_1)]⟩) ∧
        cond (!t78_1) (
          B1 ((IntKind.i64.wrap (t43 + 1)), ()) w__3
        ) (
          S3_k9 head n_ q prio bypass t78_0 t41_a t41_l t41_c t42 t43 w__3 R B1
        )
    ) (
      ∃ (t52 : Int),
      (((w.alloc (.cells ⟨[(.int .u8 0), (.int .i64 0)]⟩ 31)).setCell ⟨w.heap.size, 0, none⟩ (.int .u8 t46_0)).setCell ⟨w.heap.size, 1, none⟩ (.int .i64 t46_1)).cell? ⟨w.heap.size, 1, none⟩ = some (.int .i64 t52) ∧
      Calls Try.prog 14 ⟨[(.pointer q), (.int .i64 t52)]⟩ (((w.alloc (.cells ⟨[(.int .u8 0), (.int .i64 0)]⟩ 31)).setCell ⟨w.heap.size, 0, none⟩ (.int .u8 t46_0)).setCell ⟨w.heap.size, 1, none⟩ (.int .i64 t46_1)) fun e w__4 =>
        ∃ (t53 : Bool),
        e = .returned (.bool t53) ∧
        cond t53 (
          ∃ (t56 : Int),
          w__4.cell? ⟨w.heap.size, 1, none⟩ = some (.int .i64 t56) ∧
          ∃ (w__5 : World),
          (Builtin.delete_ #[28, 3] 0 ⟨[(.map bypass), (.int .i64 t56)]⟩).run Try.prog w__4 = .ok (.tuple ⟨[]⟩) w__5 ∧
          S3_k4 head n_ q prio bypass t41_a t41_l t41_c t42 t43 w__5 R B1
        ) (
          S3_k4 head n_ q prio bypass t41_a t41_l t41_c t42 t43 w__4 R B1
        )
    )
  )

def S3_L2 (head : Bool) (n_ : Int) (q : Option Addr) (prio : Option Nat) (bypass : Option Nat) (t41_a : Option Addr) (t41_l : Nat) (t41_c : Nat) (t42 : Int) (t43 : Int) (w : World) (R : Value → World → Prop) (B1 : (Int) × Unit → World → Prop) : Prop :=
  cond (decide ((t43 : Int) < t42)) (
    S3_k3 head n_ q prio bypass t41_a t41_l t41_c t42 t43 w R B1
  ) (
    R (.bool head) w
  )

def S3_k1 (l_a : Option Addr) (l_l : Nat) (l_c : Nat) (head : Bool) (n_ : Int) (q : Option Addr) (w : World) (R : Value → World → Prop) : Prop :=
  Calls Try.prog 11 ⟨[(.slice l_a l_l l_c)]⟩ ((w.alloc (.map #[] 0)).alloc (.map #[] 0)) fun e w_ =>
    ∃ (t41_a : Option Addr) (t41_l : Nat) (t41_c : Nat),
    e = .returned (.slice t41_a t41_l t41_c) ∧
    ∃ (I : (Int) × Unit → World → Prop) (μ : (Int) × Unit → World → Nat),
    I (0, ()) w_ ∧
    ∀ (J : Env) (s : (Int) × Unit) (w' : World), I s w' →
      S3_L2 head n_ q (some w.heap.size) (some (w.alloc (.map #[] 0)).heap.size) t41_a t41_l t41_c ((t41_l : Nat) : Int) s.1 w' R (fun s' w'' => I s' w'' ∧ μ s' w'' < μ s w')

def S3_k0 (l_a : Option Addr) (l_l : Nat) (l_c : Nat) (head : Bool) (n_ : Int) (q : Option Addr) (t37 : Bool) (w : World) (R : Value → World → Prop) : Prop :=
  cond t37 (
    R (.bool false) w
  ) (
    S3_k1 l_a l_l l_c head n_ q w R
  )

def S3 (step : Int) (l_a : Option Addr) (l_l : Nat) (l_c : Nat) (w : World) (R : Value → World → Prop) : Prop :=
  Calls Try.prog 9 ⟨[]⟩ w fun e w_ =>
    ∃ (t23 : Bool),
    e = .returned (.bool t23) ∧
    (21 : Int) ≠ 0 ∧
    Calls Try.prog 10 ⟨[(.int .i64 (IntKind.i64.wrap (Int.tmod step 21)))]⟩ w_ fun e w__1 =>
      ∃ (t29_0 : Option Addr) (t29_1 : Int),
      e = .returned (.tuple ⟨[(.pointer t29_0), (.int .i64 t29_1)]⟩) ∧
      cond (Option.isNone t29_0) (
        S3_k0 l_a l_l l_c t23 (IntKind.i64.wrap (Int.tmod step 21)) t29_0 true w__1 R
      ) (
        S3_k0 l_a l_l l_c t23 (IntKind.i64.wrap (Int.tmod step 21)) t29_0 (!decide ((t29_1 : Int) = 0)) w__1 R
      )

theorem S3_eq (step : Int) (l_a : Option Addr) (l_l : Nat) (l_c : Nat) (w : World) (R : Value → World → Prop) : Eng.R Try.prog ⟨cal, S3_nx⟩ 147 S3_ann [] (Try.f3.body.getD .skip) (bodyQ Try.prog #[.tmp 4] R) (argE [(.int .u8 step), (.slice l_a l_l l_c)]) w = S3 step l_a l_l l_c w R := by kernel_rfl
/-- A call of 'carfax/carfaxlaw12.AgingBound', by its condition. -/
theorem S3_calls {step : Int} {l_a : Option Addr} {l_l : Nat} {l_c : Nat} {w : World} {R : Value → World → Prop} (hS : S3 step l_a l_l l_c w R) : Ret Try.prog 3 [(.int .u8 step), (.slice l_a l_l l_c)] w R :=
  R_calls (C := ⟨cal, S3_nx⟩) cal_ok follows Try.func3 (c := Try.f3.body.getD .skip) (res := #[.tmp 4]) (n := 147) (by kernel_rfl) (by kernel_rfl) (by kernel_rfl) (by kernel_rfl) ((S3_eq step l_a l_l l_c w R).mpr hS)

def S4_ann (p : List Nat) : Option LA := match p with
  | [0, 1, 0, 1, 1, 1, 1] => some ⟨[5, 6, 34, 35], [(36, .one (.int .i64))]⟩
  | [0, 1, 0, 1, 1, 1, 1, 0, 1, 1, 1, 0, 1, 1, 0, 0, 1, 1, 0, 0, 1, 0, 1, 1, 1, 1] => some ⟨[5, 6, 10, 11, 12, 34, 35, 36, 67, 68], [(13, .one (.int .i64)), (14, .one .bool), (69, .one (.int .i64))]⟩
  | [0, 1, 1, 1, 1, 1, 1, 0, 1, 1, 1, 0, 1, 1, 0, 0, 1, 1, 0, 0, 1, 0, 1, 1, 1, 1] => some ⟨[5, 6, 11, 12, 13, 14, 34, 35, 36, 80, 81], [(82, .one (.int .i64))]⟩
  | _ => none

def S4_nx (t : Nat) : Option (TypeId × TypeId) := none

def S4_k6 (head : Bool) (q : Option Addr) (was_a : Option Addr) (was_l : Nat) (was_c : Nat) (id : Int) (is : Bool) (prio : Int) (found : Bool) (t34_a : Option Addr) (t34_l : Nat) (t34_c : Nat) (t35 : Int) (t36 : Int) (t67_a : Option Addr) (t67_l : Nat) (t67_c : Nat) (t68 : Int) (t69 : Int) (w : World) (R : Value → World → Prop) (B1 : (Int) × Unit → World → Prop) (B2 : (Int) × (Bool) × (Int) × Unit → World → Prop) : Prop :=
  ∃ (t71 : Addr),
  t67_a = some t71 ∧
  0 ≤ (t69 : Int) ∧
  (t69 : Int) < ((t67_l : Nat) : Int) ∧
  ∃ (t72_0 : Int),
  w.cell? (t71.add (Int.toNat t69 * 3)) = some (.int .i64 t72_0) ∧
  ∃ (t72_1 : Int),
  w.cell? ((t71.add (Int.toNat t69 * 3)).add 1) = some (.int .i64 t72_1) ∧
  ∃ (t72_2 : Int),
  w.cell? ((t71.add (Int.toNat t69 * 3)).add 2) = some (.int .i64 t72_2) ∧
  (∃ u, (w.alloc (.cells ⟨[(.int .i64 0), (.int .i64 0), (.int .i64 0)]⟩ 40)).cell? ⟨w.heap.size, 0, none⟩ = some u) ∧
  (w.alloc (.cells ⟨[(.int .i64 0), (.int .i64 0), (.int .i64 0)]⟩ 40)).frozen? ⟨w.heap.size, 0, none⟩ = false ∧
  (∃ u, ((w.alloc (.cells ⟨[(.int .i64 0), (.int .i64 0), (.int .i64 0)]⟩ 40)).setCell ⟨w.heap.size, 0, none⟩ (.int .i64 t72_0)).cell? ⟨w.heap.size, 1, none⟩ = some u) ∧
  ((w.alloc (.cells ⟨[(.int .i64 0), (.int .i64 0), (.int .i64 0)]⟩ 40)).setCell ⟨w.heap.size, 0, none⟩ (.int .i64 t72_0)).frozen? ⟨w.heap.size, 1, none⟩ = false ∧
  (∃ u, (((w.alloc (.cells ⟨[(.int .i64 0), (.int .i64 0), (.int .i64 0)]⟩ 40)).setCell ⟨w.heap.size, 0, none⟩ (.int .i64 t72_0)).setCell ⟨w.heap.size, 1, none⟩ (.int .i64 t72_1)).cell? ⟨w.heap.size, 2, none⟩ = some u) ∧
  (((w.alloc (.cells ⟨[(.int .i64 0), (.int .i64 0), (.int .i64 0)]⟩ 40)).setCell ⟨w.heap.size, 0, none⟩ (.int .i64 t72_0)).setCell ⟨w.heap.size, 1, none⟩ (.int .i64 t72_1)).frozen? ⟨w.heap.size, 2, none⟩ = false ∧
  ∃ (t74 : Int),
  ((((w.alloc (.cells ⟨[(.int .i64 0), (.int .i64 0), (.int .i64 0)]⟩ 40)).setCell ⟨w.heap.size, 0, none⟩ (.int .i64 t72_0)).setCell ⟨w.heap.size, 1, none⟩ (.int .i64 t72_1)).setCell ⟨w.heap.size, 2, none⟩ (.int .i64 t72_2)).cell? ⟨w.heap.size, 0, none⟩ = some (.int .i64 t74) ∧
  cond (decide ((t74 : Int) = id)) (
    ∃ (t78 : Int),
    ((((w.alloc (.cells ⟨[(.int .i64 0), (.int .i64 0), (.int .i64 0)]⟩ 40)).setCell ⟨w.heap.size, 0, none⟩ (.int .i64 t72_0)).setCell ⟨w.heap.size, 1, none⟩ (.int .i64 t72_1)).setCell ⟨w.heap.size, 2, none⟩ (.int .i64 t72_2)).cell? ⟨w.heap.size, 1, none⟩ = some (.int .i64 t78) ∧
    B2 (t78, true, (IntKind.i64.wrap (t69 + 1)), ()) ((((w.alloc (.cells ⟨[(.int .i64 0), (.int .i64 0), (.int .i64 0)]⟩ 40)).setCell ⟨w.heap.size, 0, none⟩ (.int .i64 t72_0)).setCell ⟨w.heap.size, 1, none⟩ (.int .i64 t72_1)).setCell ⟨w.heap.size, 2, none⟩ (.int .i64 t72_2))
  ) (
    B2 (prio, found, (IntKind.i64.wrap (t69 + 1)), ()) ((((w.alloc (.cells ⟨[(.int .i64 0), (.int .i64 0), (.int .i64 0)]⟩ 40)).setCell ⟨w.heap.size, 0, none⟩ (.int .i64 t72_0)).setCell ⟨w.heap.size, 1, none⟩ (.int .i64 t72_1)).setCell ⟨w.heap.size, 2, none⟩ (.int .i64 t72_2))
  )

def S4_k10 (head : Bool) (q : Option Addr) (id : Int) (is : Bool) (prio : Int) (found : Bool) (t34_a : Option Addr) (t34_l : Nat) (t34_c : Nat) (t35 : Int) (t36 : Int) (t80_a : Option Addr) (t80_l : Nat) (t80_c : Nat) (t81 : Int) (t82 : Int) (t102 : Bool) (w : World) (R : Value → World → Prop) (B1 : (Int) × Unit → World → Prop) (B2 : (Int) × Unit → World → Prop) : Prop :=
  cond t102 (
    R (.bool false) w
  ) (
    B2 ((IntKind.i64.wrap (t82 + 1)), ()) w
  )

def S4_k9 (head : Bool) (q : Option Addr) (id : Int) (is : Bool) (prio : Int) (found : Bool) (t34_a : Option Addr) (t34_l : Nat) (t34_c : Nat) (t35 : Int) (t36 : Int) (t80_a : Option Addr) (t80_l : Nat) (t80_c : Nat) (t81 : Int) (t82 : Int) (w : World) (R : Value → World → Prop) (B1 : (Int) × Unit → World → Prop) (B2 : (Int) × Unit → World → Prop) : Prop :=
  ∃ (t84 : Addr),
  t80_a = some t84 ∧
  0 ≤ (t82 : Int) ∧
  (t82 : Int) < ((t80_l : Nat) : Int) ∧
  ∃ (t85_0 : Int),
  w.cell? (t84.add (Int.toNat t82 * 3)) = some (.int .i64 t85_0) ∧
  ∃ (t85_1 : Int),
  w.cell? ((t84.add (Int.toNat t82 * 3)).add 1) = some (.int .i64 t85_1) ∧
  ∃ (t85_2 : Int),
  w.cell? ((t84.add (Int.toNat t82 * 3)).add 2) = some (.int .i64 t85_2) ∧
  (∃ u, (w.alloc (.cells ⟨[(.int .i64 0), (.int .i64 0), (.int .i64 0)]⟩ 40)).cell? ⟨w.heap.size, 0, none⟩ = some u) ∧
  (w.alloc (.cells ⟨[(.int .i64 0), (.int .i64 0), (.int .i64 0)]⟩ 40)).frozen? ⟨w.heap.size, 0, none⟩ = false ∧
  (∃ u, ((w.alloc (.cells ⟨[(.int .i64 0), (.int .i64 0), (.int .i64 0)]⟩ 40)).setCell ⟨w.heap.size, 0, none⟩ (.int .i64 t85_0)).cell? ⟨w.heap.size, 1, none⟩ = some u) ∧
  ((w.alloc (.cells ⟨[(.int .i64 0), (.int .i64 0), (.int .i64 0)]⟩ 40)).setCell ⟨w.heap.size, 0, none⟩ (.int .i64 t85_0)).frozen? ⟨w.heap.size, 1, none⟩ = false ∧
  (∃ u, (((w.alloc (.cells ⟨[(.int .i64 0), (.int .i64 0), (.int .i64 0)]⟩ 40)).setCell ⟨w.heap.size, 0, none⟩ (.int .i64 t85_0)).setCell ⟨w.heap.size, 1, none⟩ (.int .i64 t85_1)).cell? ⟨w.heap.size, 2, none⟩ = some u) ∧
  (((w.alloc (.cells ⟨[(.int .i64 0), (.int .i64 0), (.int .i64 0)]⟩ 40)).setCell ⟨w.heap.size, 0, none⟩ (.int .i64 t85_0)).setCell ⟨w.heap.size, 1, none⟩ (.int .i64 t85_1)).frozen? ⟨w.heap.size, 2, none⟩ = false ∧
  cond is (
    cond (!found) (
      S4_k10 head q id is prio found t34_a t34_l t34_c t35 t36 t80_a t80_l t80_c t81 t82 true ((((w.alloc (.cells ⟨[(.int .i64 0), (.int .i64 0), (.int .i64 0)]⟩ 40)).setCell ⟨w.heap.size, 0, none⟩ (.int .i64 t85_0)).setCell ⟨w.heap.size, 1, none⟩ (.int .i64 t85_1)).setCell ⟨w.heap.size, 2, none⟩ (.int .i64 t85_2)) R B1 B2
    ) (
      ∃ (t92 : Int),
      ((((w.alloc (.cells ⟨[(.int .i64 0), (.int .i64 0), (.int .i64 0)]⟩ 40)).setCell ⟨w.heap.size, 0, none⟩ (.int .i64 t85_0)).setCell ⟨w.heap.size, 1, none⟩ (.int .i64 t85_1)).setCell ⟨w.heap.size, 2, none⟩ (.int .i64 t85_2)).cell? ⟨w.heap.size, 1, none⟩ = some (.int .i64 t92) ∧
      cond (decide ((t92 : Int) = prio)) (
        ∃ (t97 : Int),
        ((((w.alloc (.cells ⟨[(.int .i64 0), (.int .i64 0), (.int .i64 0)]⟩ 40)).setCell ⟨w.heap.size, 0, none⟩ (.int .i64 t85_0)).setCell ⟨w.heap.size, 1, none⟩ (.int .i64 t85_1)).setCell ⟨w.heap.size, 2, none⟩ (.int .i64 t85_2)).cell? ⟨w.heap.size, 0, none⟩ = some (.int .i64 t97) ∧
        S4_k10 head q id is prio found t34_a t34_l t34_c t35 t36 t80_a t80_l t80_c t81 t82 (decide ((t97 : Int) < id)) ((((w.alloc (.cells ⟨[(.int .i64 0), (.int .i64 0), (.int .i64 0)]⟩ 40)).setCell ⟨w.heap.size, 0, none⟩ (.int .i64 t85_0)).setCell ⟨w.heap.size, 1, none⟩ (.int .i64 t85_1)).setCell ⟨w.heap.size, 2, none⟩ (.int .i64 t85_2)) R B1 B2
      ) (
        S4_k10 head q id is prio found t34_a t34_l t34_c t35 t36 t80_a t80_l t80_c t81 t82 false ((((w.alloc (.cells ⟨[(.int .i64 0), (.int .i64 0), (.int .i64 0)]⟩ 40)).setCell ⟨w.heap.size, 0, none⟩ (.int .i64 t85_0)).setCell ⟨w.heap.size, 1, none⟩ (.int .i64 t85_1)).setCell ⟨w.heap.size, 2, none⟩ (.int .i64 t85_2)) R B1 B2
      )
    )
  ) (
    S4_k10 head q id is prio found t34_a t34_l t34_c t35 t36 t80_a t80_l t80_c t81 t82 false ((((w.alloc (.cells ⟨[(.int .i64 0), (.int .i64 0), (.int .i64 0)]⟩ 40)).setCell ⟨w.heap.size, 0, none⟩ (.int .i64 t85_0)).setCell ⟨w.heap.size, 1, none⟩ (.int .i64 t85_1)).setCell ⟨w.heap.size, 2, none⟩ (.int .i64 t85_2)) R B1 B2
  )

def S4_L8 (head : Bool) (q : Option Addr) (id : Int) (is : Bool) (prio : Int) (found : Bool) (t34_a : Option Addr) (t34_l : Nat) (t34_c : Nat) (t35 : Int) (t36 : Int) (t80_a : Option Addr) (t80_l : Nat) (t80_c : Nat) (t81 : Int) (t82 : Int) (w : World) (R : Value → World → Prop) (B1 : (Int) × Unit → World → Prop) (B2 : (Int) × Unit → World → Prop) : Prop :=
  cond (decide ((t82 : Int) < t81)) (
    S4_k9 head q id is prio found t34_a t34_l t34_c t35 t36 t80_a t80_l t80_c t81 t82 w R B1 B2
  ) (
    B1 ((IntKind.i64.wrap (t36 + 1)), ()) w
  )

def S4_k7 (head : Bool) (q : Option Addr) (was_a : Option Addr) (was_l : Nat) (was_c : Nat) (id : Int) (is : Bool) (prio : Int) (found : Bool) (t34_a : Option Addr) (t34_l : Nat) (t34_c : Nat) (t35 : Int) (t36 : Int) (w : World) (R : Value → World → Prop) (B1 : (Int) × Unit → World → Prop) : Prop :=
  ∃ (I : (Int) × Unit → World → Prop) (μ : (Int) × Unit → World → Nat),
  I (0, ()) w ∧
  ∀ (J : Env) (s : (Int) × Unit) (w' : World), I s w' →
    S4_L8 head q id is prio found t34_a t34_l t34_c t35 t36 was_a was_l was_c ((was_l : Nat) : Int) s.1 w' R B1 (fun s' w'' => I s' w'' ∧ μ s' w'' < μ s w')

def S4_L5 (head : Bool) (q : Option Addr) (was_a : Option Addr) (was_l : Nat) (was_c : Nat) (id : Int) (is : Bool) (prio : Int) (found : Bool) (t34_a : Option Addr) (t34_l : Nat) (t34_c : Nat) (t35 : Int) (t36 : Int) (t67_a : Option Addr) (t67_l : Nat) (t67_c : Nat) (t68 : Int) (t69 : Int) (w : World) (R : Value → World → Prop) (B1 : (Int) × Unit → World → Prop) (B2 : (Int) × (Bool) × (Int) × Unit → World → Prop) : Prop :=
  cond (decide ((t69 : Int) < t68)) (
    S4_k6 head q was_a was_l was_c id is prio found t34_a t34_l t34_c t35 t36 t67_a t67_l t67_c t68 t69 w R B1 B2
  ) (
    S4_k7 head q was_a was_l was_c id is prio found t34_a t34_l t34_c t35 t36 w R B1
  )

def S4_k4 (head : Bool) (q : Option Addr) (was_a : Option Addr) (was_l : Nat) (was_c : Nat) (id : Int) (is : Bool) (t34_a : Option Addr) (t34_l : Nat) (t34_c : Nat) (t35 : Int) (t36 : Int) (w : World) (R : Value → World → Prop) (B1 : (Int) × Unit → World → Prop) : Prop :=
  ∃ (I : (Int) × (Bool) × (Int) × Unit → World → Prop) (μ : (Int) × (Bool) × (Int) × Unit → World → Nat),
  I (0, false, 0, ()) w ∧
  ∀ (J : Env) (s : (Int) × (Bool) × (Int) × Unit) (w' : World), I s w' →
    S4_L5 head q was_a was_l was_c id is s.1 s.2.1 t34_a t34_l t34_c t35 t36 was_a was_l was_c ((was_l : Nat) : Int) s.2.2.1 w' R B1 (fun s' w'' => I s' w'' ∧ μ s' w'' < μ s w')

def S4_k3 (head : Bool) (q : Option Addr) (t34_a : Option Addr) (t34_l : Nat) (t34_c : Nat) (t35 : Int) (t36 : Int) (w : World) (R : Value → World → Prop) (B1 : (Int) × Unit → World → Prop) : Prop :=
  ∃ (t38 : Addr),
  t34_a = some t38 ∧
  0 ≤ (t36 : Int) ∧
  (t36 : Int) < ((t34_l : Nat) : Int) ∧
  ∃ (t39_0 : Int),
  w.cell? (t38.add (Int.toNat t36 * 2)) = some (.int .u8 t39_0) ∧
  ∃ (t39_1 : Int),
  w.cell? ((t38.add (Int.toNat t36 * 2)).add 1) = some (.int .i64 t39_1) ∧
  (∃ u, (w.alloc (.cells ⟨[(.int .u8 0), (.int .i64 0)]⟩ 31)).cell? ⟨w.heap.size, 0, none⟩ = some u) ∧
  (w.alloc (.cells ⟨[(.int .u8 0), (.int .i64 0)]⟩ 31)).frozen? ⟨w.heap.size, 0, none⟩ = false ∧
  (∃ u, ((w.alloc (.cells ⟨[(.int .u8 0), (.int .i64 0)]⟩ 31)).setCell ⟨w.heap.size, 0, none⟩ (.int .u8 t39_0)).cell? ⟨w.heap.size, 1, none⟩ = some u) ∧
  ((w.alloc (.cells ⟨[(.int .u8 0), (.int .i64 0)]⟩ 31)).setCell ⟨w.heap.size, 0, none⟩ (.int .u8 t39_0)).frozen? ⟨w.heap.size, 1, none⟩ = false ∧
  ∃ (t41 : Int),
  (((w.alloc (.cells ⟨[(.int .u8 0), (.int .i64 0)]⟩ 31)).setCell ⟨w.heap.size, 0, none⟩ (.int .u8 t39_0)).setCell ⟨w.heap.size, 1, none⟩ (.int .i64 t39_1)).cell? ⟨w.heap.size, 0, none⟩ = some (.int .u8 t41) ∧
  (3 : Int) ≠ 0 ∧
  cond (decide (((Int.tmod t41 3) : Int) = 0)) (
    ∃ (t51 : Int),
    (((w.alloc (.cells ⟨[(.int .u8 0), (.int .i64 0)]⟩ 31)).setCell ⟨w.heap.size, 0, none⟩ (.int .u8 t39_0)).setCell ⟨w.heap.size, 1, none⟩ (.int .i64 t39_1)).cell? ⟨w.heap.size, 1, none⟩ = some (.int .i64 t51) ∧
    Calls Try.prog 12 ⟨[(.pointer q), (.int .i64 t51)]⟩ (((w.alloc (.cells ⟨[(.int .u8 0), (.int .i64 0)]⟩ 31)).setCell ⟨w.heap.size, 0, none⟩ (.int .u8 t39_0)).setCell ⟨w.heap.size, 1, none⟩ (.int .i64 t39_1)) fun e w_ =>
      ∃ (t52_0 : Int) (t52_1 : Int),
      e = .returned (.tuple ⟨[(.int .i64 t52_0), (.int .i64 t52_1)]⟩) ∧
      B1 ((IntKind.i64.wrap (t36 + 1)), ()) w_
  ) (
    cond (decide (((Int.tmod t41 3) : Int) = 1)) (
      Calls Try.prog 15 ⟨[(.pointer q)]⟩ (((w.alloc (.cells ⟨[(.int .u8 0), (.int .i64 0)]⟩ 31)).setCell ⟨w.heap.size, 0, none⟩ (.int .u8 t39_0)).setCell ⟨w.heap.size, 1, none⟩ (.int .i64 t39_1)) fun e w__1 =>
        ∃ (t56_a : Option Addr) (t56_l : Nat) (t56_c : Nat),
        e = .returned (.slice t56_a t56_l t56_c) ∧
        Calls Try.prog 13 ⟨[(.pointer q)]⟩ w__1 fun e w__2 =>
          ∃ (t59_0 : Int) (t59_1 : Bool),
          e = .returned (.tuple ⟨[(.int .i64 t59_0), (.bool t59_1)]⟩) ∧
          cond (!(t59_1 == (decide ((0 : Int) < ((t56_l : Nat) : Int))))) (
            R (.bool false) w__2
          ) (
            S4_k4 head q t56_a t56_l t56_c t59_0 t59_1 t34_a t34_l t34_c t35 t36 w__2 R B1
          )
    ) (
      ∃ (t45 : Int),
      (((w.alloc (.cells ⟨[(.int .u8 0), (.int .i64 0)]⟩ 31)).setCell ⟨w.heap.size, 0, none⟩ (.int .u8 t39_0)).setCell ⟨w.heap.size, 1, none⟩ (.int .i64 t39_1)).cell? ⟨w.heap.size, 1, none⟩ = some (.int .i64 t45) ∧
      Calls Try.prog 14 ⟨[(.pointer q), (.int .i64 t45)]⟩ (((w.alloc (.cells ⟨[(.int .u8 0), (.int .i64 0)]⟩ 31)).setCell ⟨w.heap.size, 0, none⟩ (.int .u8 t39_0)).setCell ⟨w.heap.size, 1, none⟩ (.int .i64 t39_1)) fun e w__3 =>
        ∃ (t46 : Bool),
        e = .returned (.bool t46) ∧
        B1 ((IntKind.i64.wrap (t36 + 1)), ()) w__3
    )
  )

def S4_L2 (head : Bool) (q : Option Addr) (t34_a : Option Addr) (t34_l : Nat) (t34_c : Nat) (t35 : Int) (t36 : Int) (w : World) (R : Value → World → Prop) (B1 : (Int) × Unit → World → Prop) : Prop :=
  cond (decide ((t36 : Int) < t35)) (
    S4_k3 head q t34_a t34_l t34_c t35 t36 w R B1
  ) (
    R (.bool head) w
  )

def S4_k1 (l_a : Option Addr) (l_l : Nat) (l_c : Nat) (head : Bool) (q : Option Addr) (w : World) (R : Value → World → Prop) : Prop :=
  Calls Try.prog 11 ⟨[(.slice l_a l_l l_c)]⟩ w fun e w_ =>
    ∃ (t34_a : Option Addr) (t34_l : Nat) (t34_c : Nat),
    e = .returned (.slice t34_a t34_l t34_c) ∧
    ∃ (I : (Int) × Unit → World → Prop) (μ : (Int) × Unit → World → Nat),
    I (0, ()) w_ ∧
    ∀ (J : Env) (s : (Int) × Unit) (w' : World), I s w' →
      S4_L2 head q t34_a t34_l t34_c ((t34_l : Nat) : Int) s.1 w' R (fun s' w'' => I s' w'' ∧ μ s' w'' < μ s w')

def S4_k0 (l_a : Option Addr) (l_l : Nat) (l_c : Nat) (head : Bool) (q : Option Addr) (t32 : Bool) (w : World) (R : Value → World → Prop) : Prop :=
  cond t32 (
    R (.bool false) w
  ) (
    S4_k1 l_a l_l l_c head q w R
  )

def S4 (step : Int) (l_a : Option Addr) (l_l : Nat) (l_c : Nat) (w : World) (R : Value → World → Prop) : Prop :=
  Calls Try.prog 9 ⟨[]⟩ w fun e w_ =>
    ∃ (t19 : Bool),
    e = .returned (.bool t19) ∧
    (21 : Int) ≠ 0 ∧
    Calls Try.prog 10 ⟨[(.int .i64 (IntKind.i64.wrap (Int.tmod step 21)))]⟩ w_ fun e w__1 =>
      ∃ (t24_0 : Option Addr) (t24_1 : Int),
      e = .returned (.tuple ⟨[(.pointer t24_0), (.int .i64 t24_1)]⟩) ∧
      cond (Option.isNone t24_0) (
        S4_k0 l_a l_l l_c t19 t24_0 true w__1 R
      ) (
        S4_k0 l_a l_l l_c t19 t24_0 (!decide ((t24_1 : Int) = 0)) w__1 R
      )

theorem S4_eq (step : Int) (l_a : Option Addr) (l_l : Nat) (l_c : Nat) (w : World) (R : Value → World → Prop) : Eng.R Try.prog ⟨cal, S4_nx⟩ 106 S4_ann [] (Try.f4.body.getD .skip) (bodyQ Try.prog #[.tmp 4] R) (argE [(.int .u8 step), (.slice l_a l_l l_c)]) w = S4 step l_a l_l l_c w R := by kernel_rfl
/-- A call of 'carfax/carfaxlaw12.AgingLike', by its condition. -/
theorem S4_calls {step : Int} {l_a : Option Addr} {l_l : Nat} {l_c : Nat} {w : World} {R : Value → World → Prop} (hS : S4 step l_a l_l l_c w R) : Ret Try.prog 4 [(.int .u8 step), (.slice l_a l_l l_c)] w R :=
  R_calls (C := ⟨cal, S4_nx⟩) cal_ok follows Try.func4 (c := Try.f4.body.getD .skip) (res := #[.tmp 4]) (n := 106) (by kernel_rfl) (by kernel_rfl) (by kernel_rfl) (by kernel_rfl) ((S4_eq step l_a l_l l_c w R).mpr hS)

def S5_ann (p : List Nat) : Option LA := match p with
  | [0, 1, 0, 1, 1, 1, 1] => some ⟨[5, 6, 32, 33], [(34, .one (.int .i64))]⟩
  | [0, 1, 0, 1, 1, 1, 1, 1, 1] => some ⟨[5, 6, 10, 58, 59], [(60, .one (.int .i64))]⟩
  | [0, 1, 0, 1, 1, 1, 1, 1, 1, 1] => some ⟨[5, 6, 10, 70], [(71, .one (.int .i64))]⟩
  | _ => none

def S5_nx (t : Nat) : Option (TypeId × TypeId) := none

def S5_k3 (head : Bool) (q : Option Addr) (t32_a : Option Addr) (t32_l : Nat) (t32_c : Nat) (t33 : Int) (t34 : Int) (w : World) (R : Value → World → Prop) (B1 : (Int) × Unit → World → Prop) : Prop :=
  ∃ (t36 : Addr),
  t32_a = some t36 ∧
  0 ≤ (t34 : Int) ∧
  (t34 : Int) < ((t32_l : Nat) : Int) ∧
  ∃ (t37_0 : Int),
  w.cell? (t36.add (Int.toNat t34 * 2)) = some (.int .u8 t37_0) ∧
  ∃ (t37_1 : Int),
  w.cell? ((t36.add (Int.toNat t34 * 2)).add 1) = some (.int .i64 t37_1) ∧
  (∃ u, (w.alloc (.cells ⟨[(.int .u8 0), (.int .i64 0)]⟩ 31)).cell? ⟨w.heap.size, 0, none⟩ = some u) ∧
  (w.alloc (.cells ⟨[(.int .u8 0), (.int .i64 0)]⟩ 31)).frozen? ⟨w.heap.size, 0, none⟩ = false ∧
  (∃ u, ((w.alloc (.cells ⟨[(.int .u8 0), (.int .i64 0)]⟩ 31)).setCell ⟨w.heap.size, 0, none⟩ (.int .u8 t37_0)).cell? ⟨w.heap.size, 1, none⟩ = some u) ∧
  ((w.alloc (.cells ⟨[(.int .u8 0), (.int .i64 0)]⟩ 31)).setCell ⟨w.heap.size, 0, none⟩ (.int .u8 t37_0)).frozen? ⟨w.heap.size, 1, none⟩ = false ∧
  ∃ (t39 : Int),
  (((w.alloc (.cells ⟨[(.int .u8 0), (.int .i64 0)]⟩ 31)).setCell ⟨w.heap.size, 0, none⟩ (.int .u8 t37_0)).setCell ⟨w.heap.size, 1, none⟩ (.int .i64 t37_1)).cell? ⟨w.heap.size, 0, none⟩ = some (.int .u8 t39) ∧
  (3 : Int) ≠ 0 ∧
  cond (decide (((Int.tmod t39 3) : Int) = 0)) (
    ∃ (t49 : Int),
    (((w.alloc (.cells ⟨[(.int .u8 0), (.int .i64 0)]⟩ 31)).setCell ⟨w.heap.size, 0, none⟩ (.int .u8 t37_0)).setCell ⟨w.heap.size, 1, none⟩ (.int .i64 t37_1)).cell? ⟨w.heap.size, 1, none⟩ = some (.int .i64 t49) ∧
    Calls Try.prog 12 ⟨[(.pointer q), (.int .i64 t49)]⟩ (((w.alloc (.cells ⟨[(.int .u8 0), (.int .i64 0)]⟩ 31)).setCell ⟨w.heap.size, 0, none⟩ (.int .u8 t37_0)).setCell ⟨w.heap.size, 1, none⟩ (.int .i64 t37_1)) fun e w_ =>
      ∃ (t50_0 : Int) (t50_1 : Int),
      e = .returned (.tuple ⟨[(.int .i64 t50_0), (.int .i64 t50_1)]⟩) ∧
      B1 ((IntKind.i64.wrap (t34 + 1)), ()) w_
  ) (
    cond (decide (((Int.tmod t39 3) : Int) = 1)) (
      Calls Try.prog 13 ⟨[(.pointer q)]⟩ (((w.alloc (.cells ⟨[(.int .u8 0), (.int .i64 0)]⟩ 31)).setCell ⟨w.heap.size, 0, none⟩ (.int .u8 t37_0)).setCell ⟨w.heap.size, 1, none⟩ (.int .i64 t37_1)) fun e w__1 =>
        ∃ (t54_0 : Int) (t54_1 : Bool),
        e = .returned (.tuple ⟨[(.int .i64 t54_0), (.bool t54_1)]⟩) ∧
        B1 ((IntKind.i64.wrap (t34 + 1)), ()) w__1
    ) (
      ∃ (t43 : Int),
      (((w.alloc (.cells ⟨[(.int .u8 0), (.int .i64 0)]⟩ 31)).setCell ⟨w.heap.size, 0, none⟩ (.int .u8 t37_0)).setCell ⟨w.heap.size, 1, none⟩ (.int .i64 t37_1)).cell? ⟨w.heap.size, 1, none⟩ = some (.int .i64 t43) ∧
      Calls Try.prog 14 ⟨[(.pointer q), (.int .i64 t43)]⟩ (((w.alloc (.cells ⟨[(.int .u8 0), (.int .i64 0)]⟩ 31)).setCell ⟨w.heap.size, 0, none⟩ (.int .u8 t37_0)).setCell ⟨w.heap.size, 1, none⟩ (.int .i64 t37_1)) fun e w__2 =>
        ∃ (t44 : Bool),
        e = .returned (.bool t44) ∧
        B1 ((IntKind.i64.wrap (t34 + 1)), ()) w__2
    )
  )

def S5_k6 (head : Bool) (q : Option Addr) (left : Option Nat) (t58_a : Option Addr) (t58_l : Nat) (t58_c : Nat) (t59 : Int) (t60 : Int) (w : World) (R : Value → World → Prop) (B1 : (Int) × Unit → World → Prop) : Prop :=
  ∃ (t62 : Addr),
  t58_a = some t62 ∧
  0 ≤ (t60 : Int) ∧
  (t60 : Int) < ((t58_l : Nat) : Int) ∧
  ∃ (t63_0 : Int),
  w.cell? (t62.add (Int.toNat t60 * 3)) = some (.int .i64 t63_0) ∧
  ∃ (t63_1 : Int),
  w.cell? ((t62.add (Int.toNat t60 * 3)).add 1) = some (.int .i64 t63_1) ∧
  ∃ (t63_2 : Int),
  w.cell? ((t62.add (Int.toNat t60 * 3)).add 2) = some (.int .i64 t63_2) ∧
  (∃ u, (w.alloc (.cells ⟨[(.int .i64 0), (.int .i64 0), (.int .i64 0)]⟩ 40)).cell? ⟨w.heap.size, 0, none⟩ = some u) ∧
  (w.alloc (.cells ⟨[(.int .i64 0), (.int .i64 0), (.int .i64 0)]⟩ 40)).frozen? ⟨w.heap.size, 0, none⟩ = false ∧
  (∃ u, ((w.alloc (.cells ⟨[(.int .i64 0), (.int .i64 0), (.int .i64 0)]⟩ 40)).setCell ⟨w.heap.size, 0, none⟩ (.int .i64 t63_0)).cell? ⟨w.heap.size, 1, none⟩ = some u) ∧
  ((w.alloc (.cells ⟨[(.int .i64 0), (.int .i64 0), (.int .i64 0)]⟩ 40)).setCell ⟨w.heap.size, 0, none⟩ (.int .i64 t63_0)).frozen? ⟨w.heap.size, 1, none⟩ = false ∧
  (∃ u, (((w.alloc (.cells ⟨[(.int .i64 0), (.int .i64 0), (.int .i64 0)]⟩ 40)).setCell ⟨w.heap.size, 0, none⟩ (.int .i64 t63_0)).setCell ⟨w.heap.size, 1, none⟩ (.int .i64 t63_1)).cell? ⟨w.heap.size, 2, none⟩ = some u) ∧
  (((w.alloc (.cells ⟨[(.int .i64 0), (.int .i64 0), (.int .i64 0)]⟩ 40)).setCell ⟨w.heap.size, 0, none⟩ (.int .i64 t63_0)).setCell ⟨w.heap.size, 1, none⟩ (.int .i64 t63_1)).frozen? ⟨w.heap.size, 2, none⟩ = false ∧
  ∃ (t66 : Int),
  ((((w.alloc (.cells ⟨[(.int .i64 0), (.int .i64 0), (.int .i64 0)]⟩ 40)).setCell ⟨w.heap.size, 0, none⟩ (.int .i64 t63_0)).setCell ⟨w.heap.size, 1, none⟩ (.int .i64 t63_1)).setCell ⟨w.heap.size, 2, none⟩ (.int .i64 t63_2)).cell? ⟨w.heap.size, 0, none⟩ = some (.int .i64 t66) ∧
  ∃ (w_ : World),
  (Instr.mapUpdate 42 (.map left) (.int .i64 t66) (.bool true)).run Try.prog ((((w.alloc (.cells ⟨[(.int .i64 0), (.int .i64 0), (.int .i64 0)]⟩ 40)).setCell ⟨w.heap.size, 0, none⟩ (.int .i64 t63_0)).setCell ⟨w.heap.size, 1, none⟩ (.int .i64 t63_1)).setCell ⟨w.heap.size, 2, none⟩ (.int .i64 t63_2)) = .ok () w_ ∧
  B1 ((IntKind.i64.wrap (t60 + 1)), ()) w_

def S5_k10 (head : Bool) (q : Option Addr) (left : Option Nat) (id : Int) (t70 : Int) (t71 : Int) (t85 : Bool) (w : World) (R : Value → World → Prop) (B1 : (Int) × Unit → World → Prop) : Prop :=
  cond t85 (
    R (.bool false) w
  ) (
    ∃ (w_ : World),
    (Builtin.delete_ #[42, 3] 0 ⟨[(.map left), (.int .i64 id)]⟩).run Try.prog w = .ok (.tuple ⟨[]⟩) w_ ∧
    B1 ((IntKind.i64.wrap (t71 + 1)), ()) w_
  )

def S5_k9 (head : Bool) (q : Option Addr) (left : Option Nat) (t70 : Int) (t71 : Int) (w : World) (R : Value → World → Prop) (B1 : (Int) × Unit → World → Prop) : Prop :=
  Calls Try.prog 13 ⟨[(.pointer q)]⟩ w fun e w_ =>
    ∃ (t75_0 : Int) (t75_1 : Bool),
    e = .returned (.tuple ⟨[(.int .i64 t75_0), (.bool t75_1)]⟩) ∧
    cond (!t75_1) (
      S5_k10 head q left t75_0 t70 t71 true w_ R B1
    ) (
      ∃ (t83 : Bool) (w__1 : World),
      (Instr.lookup 42 (.map left) (.int .i64 t75_0) false).run Try.prog w_ = .ok (.bool t83) w__1 ∧
      S5_k10 head q left t75_0 t70 t71 (!t83) w__1 R B1
    )

def S5_k11 (head : Bool) (q : Option Addr) (left : Option Nat) (w : World) (R : Value → World → Prop) : Prop :=
  Calls Try.prog 13 ⟨[(.pointer q)]⟩ w fun e w_ =>
    ∃ (t91_0 : Int) (t91_1 : Bool),
    e = .returned (.tuple ⟨[(.int .i64 t91_0), (.bool t91_1)]⟩) ∧
    cond head (
      ∃ (t97 : Int) (w__1 : World),
      (Builtin.len_ #[42] 3 ⟨[(.map left)]⟩).run Try.prog w_ = .ok (.int .i64 t97) w__1 ∧
      cond (decide ((t97 : Int) = 0)) (
        cond (!t91_1) (
          Calls Try.prog 16 ⟨[(.pointer q)]⟩ w__1 fun e w__2 =>
            ∃ (t106 : Int),
            e = .returned (.int .i64 t106) ∧
            R (.bool (decide ((t106 : Int) = 0))) w__2
        ) (
          R (.bool false) w__1
        )
      ) (
        R (.bool false) w__1
      )
    ) (
      R (.bool false) w_
    )

def S5_L8 (head : Bool) (q : Option Addr) (left : Option Nat) (t70 : Int) (t71 : Int) (w : World) (R : Value → World → Prop) (B1 : (Int) × Unit → World → Prop) : Prop :=
  cond (decide ((t71 : Int) < t70)) (
    S5_k9 head q left t70 t71 w R B1
  ) (
    S5_k11 head q left w R
  )

def S5_k7 (head : Bool) (q : Option Addr) (left : Option Nat) (w : World) (R : Value → World → Prop) : Prop :=
  Calls Try.prog 15 ⟨[(.pointer q)]⟩ w fun e w_ =>
    ∃ (t69_a : Option Addr) (t69_l : Nat) (t69_c : Nat),
    e = .returned (.slice t69_a t69_l t69_c) ∧
    ∃ (I : (Int) × Unit → World → Prop) (μ : (Int) × Unit → World → Nat),
    I (0, ()) w_ ∧
    ∀ (J : Env) (s : (Int) × Unit) (w' : World), I s w' →
      S5_L8 head q left ((t69_l : Nat) : Int) s.1 w' R (fun s' w'' => I s' w'' ∧ μ s' w'' < μ s w')

def S5_L5 (head : Bool) (q : Option Addr) (left : Option Nat) (t58_a : Option Addr) (t58_l : Nat) (t58_c : Nat) (t59 : Int) (t60 : Int) (w : World) (R : Value → World → Prop) (B1 : (Int) × Unit → World → Prop) : Prop :=
  cond (decide ((t60 : Int) < t59)) (
    S5_k6 head q left t58_a t58_l t58_c t59 t60 w R B1
  ) (
    S5_k7 head q left w R
  )

def S5_k4 (head : Bool) (q : Option Addr) (w : World) (R : Value → World → Prop) : Prop :=
  Calls Try.prog 15 ⟨[(.pointer q)]⟩ (w.alloc (.map #[] 0)) fun e w_ =>
    ∃ (t58_a : Option Addr) (t58_l : Nat) (t58_c : Nat),
    e = .returned (.slice t58_a t58_l t58_c) ∧
    ∃ (I : (Int) × Unit → World → Prop) (μ : (Int) × Unit → World → Nat),
    I (0, ()) w_ ∧
    ∀ (J : Env) (s : (Int) × Unit) (w' : World), I s w' →
      S5_L5 head q (some w.heap.size) t58_a t58_l t58_c ((t58_l : Nat) : Int) s.1 w' R (fun s' w'' => I s' w'' ∧ μ s' w'' < μ s w')

def S5_L2 (head : Bool) (q : Option Addr) (t32_a : Option Addr) (t32_l : Nat) (t32_c : Nat) (t33 : Int) (t34 : Int) (w : World) (R : Value → World → Prop) (B1 : (Int) × Unit → World → Prop) : Prop :=
  cond (decide ((t34 : Int) < t33)) (
    S5_k3 head q t32_a t32_l t32_c t33 t34 w R B1
  ) (
    S5_k4 head q w R
  )

def S5_k1 (l_a : Option Addr) (l_l : Nat) (l_c : Nat) (head : Bool) (q : Option Addr) (w : World) (R : Value → World → Prop) : Prop :=
  Calls Try.prog 11 ⟨[(.slice l_a l_l l_c)]⟩ w fun e w_ =>
    ∃ (t32_a : Option Addr) (t32_l : Nat) (t32_c : Nat),
    e = .returned (.slice t32_a t32_l t32_c) ∧
    ∃ (I : (Int) × Unit → World → Prop) (μ : (Int) × Unit → World → Nat),
    I (0, ()) w_ ∧
    ∀ (J : Env) (s : (Int) × Unit) (w' : World), I s w' →
      S5_L2 head q t32_a t32_l t32_c ((t32_l : Nat) : Int) s.1 w' R (fun s' w'' => I s' w'' ∧ μ s' w'' < μ s w')

def S5_k0 (l_a : Option Addr) (l_l : Nat) (l_c : Nat) (head : Bool) (q : Option Addr) (t30 : Bool) (w : World) (R : Value → World → Prop) : Prop :=
  cond t30 (
    R (.bool false) w
  ) (
    S5_k1 l_a l_l l_c head q w R
  )

def S5 (step : Int) (l_a : Option Addr) (l_l : Nat) (l_c : Nat) (w : World) (R : Value → World → Prop) : Prop :=
  Calls Try.prog 9 ⟨[]⟩ w fun e w_ =>
    ∃ (t17 : Bool),
    e = .returned (.bool t17) ∧
    (21 : Int) ≠ 0 ∧
    Calls Try.prog 10 ⟨[(.int .i64 (IntKind.i64.wrap (Int.tmod step 21)))]⟩ w_ fun e w__1 =>
      ∃ (t22_0 : Option Addr) (t22_1 : Int),
      e = .returned (.tuple ⟨[(.pointer t22_0), (.int .i64 t22_1)]⟩) ∧
      cond (Option.isNone t22_0) (
        S5_k0 l_a l_l l_c t17 t22_0 true w__1 R
      ) (
        S5_k0 l_a l_l l_c t17 t22_0 (!decide ((t22_1 : Int) = 0)) w__1 R
      )

theorem S5_eq (step : Int) (l_a : Option Addr) (l_l : Nat) (l_c : Nat) (w : World) (R : Value → World → Prop) : Eng.R Try.prog ⟨cal, S5_nx⟩ 109 S5_ann [] (Try.f5.body.getD .skip) (bodyQ Try.prog #[.tmp 4] R) (argE [(.int .u8 step), (.slice l_a l_l l_c)]) w = S5 step l_a l_l l_c w R := by kernel_rfl
/-- A call of 'carfax/carfaxlaw12.AgingAll', by its condition. -/
theorem S5_calls {step : Int} {l_a : Option Addr} {l_l : Nat} {l_c : Nat} {w : World} {R : Value → World → Prop} (hS : S5 step l_a l_l l_c w R) : Ret Try.prog 5 [(.int .u8 step), (.slice l_a l_l l_c)] w R :=
  R_calls (C := ⟨cal, S5_nx⟩) cal_ok follows Try.func5 (c := Try.f5.body.getD .skip) (res := #[.tmp 4]) (n := 109) (by kernel_rfl) (by kernel_rfl) (by kernel_rfl) (by kernel_rfl) ((S5_eq step l_a l_l l_c w R).mpr hS)

def S6_ann (p : List Nat) : Option LA := match p with
  | [0, 1, 0, 1, 1, 1, 1] => some ⟨[2, 7, 8, 31, 32], [(33, .one (.int .i64))]⟩
  | [0, 1, 0, 1, 1, 1, 1, 1, 1, 1] => some ⟨[2, 7, 8, 56, 57], [(12, .one .slice), (13, .one .bool), (58, .one (.int .i64))]⟩
  | _ => none

def S6_nx (t : Nat) : Option (TypeId × TypeId) := none

def S6_k3 (id : Int) (head : Bool) (q : Option Addr) (t31_a : Option Addr) (t31_l : Nat) (t31_c : Nat) (t32 : Int) (t33 : Int) (w : World) (R : Value → World → Prop) (B1 : (Int) × Unit → World → Prop) : Prop :=
  ∃ (t35 : Addr),
  t31_a = some t35 ∧
  0 ≤ (t33 : Int) ∧
  (t33 : Int) < ((t31_l : Nat) : Int) ∧
  ∃ (t36_0 : Int),
  w.cell? (t35.add (Int.toNat t33 * 2)) = some (.int .u8 t36_0) ∧
  ∃ (t36_1 : Int),
  w.cell? ((t35.add (Int.toNat t33 * 2)).add 1) = some (.int .i64 t36_1) ∧
  (∃ u, (w.alloc (.cells ⟨[(.int .u8 0), (.int .i64 0)]⟩ 31)).cell? ⟨w.heap.size, 0, none⟩ = some u) ∧
  (w.alloc (.cells ⟨[(.int .u8 0), (.int .i64 0)]⟩ 31)).frozen? ⟨w.heap.size, 0, none⟩ = false ∧
  (∃ u, ((w.alloc (.cells ⟨[(.int .u8 0), (.int .i64 0)]⟩ 31)).setCell ⟨w.heap.size, 0, none⟩ (.int .u8 t36_0)).cell? ⟨w.heap.size, 1, none⟩ = some u) ∧
  ((w.alloc (.cells ⟨[(.int .u8 0), (.int .i64 0)]⟩ 31)).setCell ⟨w.heap.size, 0, none⟩ (.int .u8 t36_0)).frozen? ⟨w.heap.size, 1, none⟩ = false ∧
  ∃ (t38 : Int),
  (((w.alloc (.cells ⟨[(.int .u8 0), (.int .i64 0)]⟩ 31)).setCell ⟨w.heap.size, 0, none⟩ (.int .u8 t36_0)).setCell ⟨w.heap.size, 1, none⟩ (.int .i64 t36_1)).cell? ⟨w.heap.size, 0, none⟩ = some (.int .u8 t38) ∧
  (3 : Int) ≠ 0 ∧
  cond (decide (((Int.tmod t38 3) : Int) = 0)) (
    ∃ (t48 : Int),
    (((w.alloc (.cells ⟨[(.int .u8 0), (.int .i64 0)]⟩ 31)).setCell ⟨w.heap.size, 0, none⟩ (.int .u8 t36_0)).setCell ⟨w.heap.size, 1, none⟩ (.int .i64 t36_1)).cell? ⟨w.heap.size, 1, none⟩ = some (.int .i64 t48) ∧
    Calls Try.prog 12 ⟨[(.pointer q), (.int .i64 t48)]⟩ (((w.alloc (.cells ⟨[(.int .u8 0), (.int .i64 0)]⟩ 31)).setCell ⟨w.heap.size, 0, none⟩ (.int .u8 t36_0)).setCell ⟨w.heap.size, 1, none⟩ (.int .i64 t36_1)) fun e w_ =>
      ∃ (t49_0 : Int) (t49_1 : Int),
      e = .returned (.tuple ⟨[(.int .i64 t49_0), (.int .i64 t49_1)]⟩) ∧
      B1 ((IntKind.i64.wrap (t33 + 1)), ()) w_
  ) (
    cond (decide (((Int.tmod t38 3) : Int) = 1)) (
      Calls Try.prog 13 ⟨[(.pointer q)]⟩ (((w.alloc (.cells ⟨[(.int .u8 0), (.int .i64 0)]⟩ 31)).setCell ⟨w.heap.size, 0, none⟩ (.int .u8 t36_0)).setCell ⟨w.heap.size, 1, none⟩ (.int .i64 t36_1)) fun e w__1 =>
        ∃ (t53_0 : Int) (t53_1 : Bool),
        e = .returned (.tuple ⟨[(.int .i64 t53_0), (.bool t53_1)]⟩) ∧
        B1 ((IntKind.i64.wrap (t33 + 1)), ()) w__1
    ) (
      ∃ (t42 : Int),
      (((w.alloc (.cells ⟨[(.int .u8 0), (.int .i64 0)]⟩ 31)).setCell ⟨w.heap.size, 0, none⟩ (.int .u8 t36_0)).setCell ⟨w.heap.size, 1, none⟩ (.int .i64 t36_1)).cell? ⟨w.heap.size, 1, none⟩ = some (.int .i64 t42) ∧
      Calls Try.prog 14 ⟨[(.pointer q), (.int .i64 t42)]⟩ (((w.alloc (.cells ⟨[(.int .u8 0), (.int .i64 0)]⟩ 31)).setCell ⟨w.heap.size, 0, none⟩ (.int .u8 t36_0)).setCell ⟨w.heap.size, 1, none⟩ (.int .i64 t36_1)) fun e w__2 =>
        ∃ (t43 : Bool),
        e = .returned (.bool t43) ∧
        B1 ((IntKind.i64.wrap (t33 + 1)), ()) w__2
    )
  )

def S6_k6 (id : Int) (head : Bool) (q : Option Addr) (want_a : Option Addr) (want_l : Nat) (want_c : Nat) (found : Bool) (t56_a : Option Addr) (t56_l : Nat) (t56_c : Nat) (t57 : Int) (t58 : Int) (w : World) (R : Value → World → Prop) (B1 : (Option Addr × Nat × Nat) × (Bool) × (Int) × Unit → World → Prop) : Prop :=
  ∃ (t60 : Addr),
  t56_a = some t60 ∧
  0 ≤ (t58 : Int) ∧
  (t58 : Int) < ((t56_l : Nat) : Int) ∧
  ∃ (t61_0 : Int),
  w.cell? (t60.add (Int.toNat t58 * 3)) = some (.int .i64 t61_0) ∧
  ∃ (t61_1 : Int),
  w.cell? ((t60.add (Int.toNat t58 * 3)).add 1) = some (.int .i64 t61_1) ∧
  ∃ (t61_2 : Int),
  w.cell? ((t60.add (Int.toNat t58 * 3)).add 2) = some (.int .i64 t61_2) ∧
  (∃ u, (w.alloc (.cells ⟨[(.int .i64 0), (.int .i64 0), (.int .i64 0)]⟩ 40)).cell? ⟨w.heap.size, 0, none⟩ = some u) ∧
  (w.alloc (.cells ⟨[(.int .i64 0), (.int .i64 0), (.int .i64 0)]⟩ 40)).frozen? ⟨w.heap.size, 0, none⟩ = false ∧
  (∃ u, ((w.alloc (.cells ⟨[(.int .i64 0), (.int .i64 0), (.int .i64 0)]⟩ 40)).setCell ⟨w.heap.size, 0, none⟩ (.int .i64 t61_0)).cell? ⟨w.heap.size, 1, none⟩ = some u) ∧
  ((w.alloc (.cells ⟨[(.int .i64 0), (.int .i64 0), (.int .i64 0)]⟩ 40)).setCell ⟨w.heap.size, 0, none⟩ (.int .i64 t61_0)).frozen? ⟨w.heap.size, 1, none⟩ = false ∧
  (∃ u, (((w.alloc (.cells ⟨[(.int .i64 0), (.int .i64 0), (.int .i64 0)]⟩ 40)).setCell ⟨w.heap.size, 0, none⟩ (.int .i64 t61_0)).setCell ⟨w.heap.size, 1, none⟩ (.int .i64 t61_1)).cell? ⟨w.heap.size, 2, none⟩ = some u) ∧
  (((w.alloc (.cells ⟨[(.int .i64 0), (.int .i64 0), (.int .i64 0)]⟩ 40)).setCell ⟨w.heap.size, 0, none⟩ (.int .i64 t61_0)).setCell ⟨w.heap.size, 1, none⟩ (.int .i64 t61_1)).frozen? ⟨w.heap.size, 2, none⟩ = false ∧
  ∃ (t63 : Int),
  ((((w.alloc (.cells ⟨[(.int .i64 0), (.int .i64 0), (.int .i64 0)]⟩ 40)).setCell ⟨w.heap.size, 0, none⟩ (.int .i64 t61_0)).setCell ⟨w.heap.size, 1, none⟩ (.int .i64 t61_1)).setCell ⟨w.heap.size, 2, none⟩ (.int .i64 t61_2)).cell? ⟨w.heap.size, 0, none⟩ = some (.int .i64 t63) ∧
  cond (decide ((t63 : Int) = id)) (
    B1 ((want_a, want_l, want_c), true, (IntKind.i64.wrap (t58 + 1)), ()) ((((w.alloc (.cells ⟨[(.int .i64 0), (.int .i64 0), (.int .i64 0)]⟩ 40)).setCell ⟨w.heap.size, 0, none⟩ (.int .i64 t61_0)).setCell ⟨w.heap.size, 1, none⟩ (.int .i64 t61_1)).setCell ⟨w.heap.size, 2, none⟩ (.int .i64 t61_2))
  ) (
    ∃ (t67_0 : Int),
    ((((w.alloc (.cells ⟨[(.int .i64 0), (.int .i64 0), (.int .i64 0)]⟩ 40)).setCell ⟨w.heap.size, 0, none⟩ (.int .i64 t61_0)).setCell ⟨w.heap.size, 1, none⟩ (.int .i64 t61_1)).setCell ⟨w.heap.size, 2, none⟩ (.int .i64 t61_2)).cell? ⟨w.heap.size, 0, none⟩ = some (.int .i64 t67_0) ∧
    ∃ (t67_1 : Int),
    ((((w.alloc (.cells ⟨[(.int .i64 0), (.int .i64 0), (.int .i64 0)]⟩ 40)).setCell ⟨w.heap.size, 0, none⟩ (.int .i64 t61_0)).setCell ⟨w.heap.size, 1, none⟩ (.int .i64 t61_1)).setCell ⟨w.heap.size, 2, none⟩ (.int .i64 t61_2)).cell? ⟨w.heap.size, 1, none⟩ = some (.int .i64 t67_1) ∧
    ∃ (t67_2 : Int),
    ((((w.alloc (.cells ⟨[(.int .i64 0), (.int .i64 0), (.int .i64 0)]⟩ 40)).setCell ⟨w.heap.size, 0, none⟩ (.int .i64 t61_0)).setCell ⟨w.heap.size, 1, none⟩ (.int .i64 t61_1)).setCell ⟨w.heap.size, 2, none⟩ (.int .i64 t61_2)).cell? ⟨w.heap.size, 2, none⟩ = some (.int .i64 t67_2) ∧
    ∃ (t69_a : Option Addr) (t69_l : Nat) (t69_c : Nat) (w_ : World),
    (Builtin.append_ #[37, 37] 37 ⟨[(.slice want_a want_l want_c), (.slice (some ⟨((((w.alloc (.cells ⟨[(.int .i64 0), (.int .i64 0), (.int .i64 0)]⟩ 40)).setCell ⟨w.heap.size, 0, none⟩ (.int .i64 t61_0)).setCell ⟨w.heap.size, 1, none⟩ (.int .i64 t61_1)).setCell ⟨w.heap.size, 2, none⟩ (.int .i64 t61_2)).heap.size, 0, none⟩) 1 1)]⟩).run Try.prog (((((w.alloc (.cells ⟨[(.int .i64 0), (.int .i64 0), (.int .i64 0)]⟩ 40)).setCell ⟨w.heap.size, 0, none⟩ (.int .i64 t61_0)).setCell ⟨w.heap.size, 1, none⟩ (.int .i64 t61_1)).setCell ⟨w.heap.size, 2, none⟩ (.int .i64 t61_2)).alloc (.cells ⟨[(.int .i64 t67_0), (.int .i64 t67_1), (.int .i64 t67_2)]⟩ 40)) = .ok (.slice t69_a t69_l t69_c) w_ ∧
    B1 ((t69_a, t69_l, t69_c), found, (IntKind.i64.wrap (t58 + 1)), ()) w_
  )

def S6_k7 (id : Int) (head : Bool) (q : Option Addr) (want_a : Option Addr) (want_l : Nat) (want_c : Nat) (found : Bool) (w : World) (R : Value → World → Prop) : Prop :=
  cond head (
    Calls Try.prog 14 ⟨[(.pointer q), (.int .i64 id)]⟩ w fun e w_ =>
      ∃ (t75 : Bool),
      e = .returned (.bool t75) ∧
      cond (t75 == found) (
        Calls Try.prog 15 ⟨[(.pointer q)]⟩ w_ fun e w__1 =>
          ∃ (t81_a : Option Addr) (t81_l : Nat) (t81_c : Nat),
          e = .returned (.slice t81_a t81_l t81_c) ∧
          Calls Try.prog 17 ⟨[(.slice t81_a t81_l t81_c), (.slice want_a want_l want_c)]⟩ w__1 fun e w__2 =>
            ∃ (t83 : Bool),
            e = .returned (.bool t83) ∧
            cond t83 (
              Calls Try.prog 14 ⟨[(.pointer q), (.int .i64 id)]⟩ w__2 fun e w__3 =>
                ∃ (t88 : Bool),
                e = .returned (.bool t88) ∧
                R (.bool (!t88)) w__3
            ) (
              R (.bool false) w__2
            )
      ) (
        R (.bool false) w_
      )
  ) (
    R (.bool false) w
  )

def S6_L5 (id : Int) (head : Bool) (q : Option Addr) (want_a : Option Addr) (want_l : Nat) (want_c : Nat) (found : Bool) (t56_a : Option Addr) (t56_l : Nat) (t56_c : Nat) (t57 : Int) (t58 : Int) (w : World) (R : Value → World → Prop) (B1 : (Option Addr × Nat × Nat) × (Bool) × (Int) × Unit → World → Prop) : Prop :=
  cond (decide ((t58 : Int) < t57)) (
    S6_k6 id head q want_a want_l want_c found t56_a t56_l t56_c t57 t58 w R B1
  ) (
    S6_k7 id head q want_a want_l want_c found w R
  )

def S6_k4 (id : Int) (head : Bool) (q : Option Addr) (w : World) (R : Value → World → Prop) : Prop :=
  Calls Try.prog 15 ⟨[(.pointer q)]⟩ w fun e w_ =>
    ∃ (t56_a : Option Addr) (t56_l : Nat) (t56_c : Nat),
    e = .returned (.slice t56_a t56_l t56_c) ∧
    ∃ (I : (Option Addr × Nat × Nat) × (Bool) × (Int) × Unit → World → Prop) (μ : (Option Addr × Nat × Nat) × (Bool) × (Int) × Unit → World → Nat),
    I ((none, 0, 0), false, 0, ()) w_ ∧
    ∀ (J : Env) (s : (Option Addr × Nat × Nat) × (Bool) × (Int) × Unit) (w' : World), I s w' →
      S6_L5 id head q s.1.1 s.1.2.1 s.1.2.2 s.2.1 t56_a t56_l t56_c ((t56_l : Nat) : Int) s.2.2.1 w' R (fun s' w'' => I s' w'' ∧ μ s' w'' < μ s w')

def S6_L2 (id : Int) (head : Bool) (q : Option Addr) (t31_a : Option Addr) (t31_l : Nat) (t31_c : Nat) (t32 : Int) (t33 : Int) (w : World) (R : Value → World → Prop) (B1 : (Int) × Unit → World → Prop) : Prop :=
  cond (decide ((t33 : Int) < t32)) (
    S6_k3 id head q t31_a t31_l t31_c t32 t33 w R B1
  ) (
    S6_k4 id head q w R
  )

def S6_k1 (l_a : Option Addr) (l_l : Nat) (l_c : Nat) (id : Int) (head : Bool) (q : Option Addr) (w : World) (R : Value → World → Prop) : Prop :=
  Calls Try.prog 11 ⟨[(.slice l_a l_l l_c)]⟩ w fun e w_ =>
    ∃ (t31_a : Option Addr) (t31_l : Nat) (t31_c : Nat),
    e = .returned (.slice t31_a t31_l t31_c) ∧
    ∃ (I : (Int) × Unit → World → Prop) (μ : (Int) × Unit → World → Nat),
    I (0, ()) w_ ∧
    ∀ (J : Env) (s : (Int) × Unit) (w' : World), I s w' →
      S6_L2 id head q t31_a t31_l t31_c ((t31_l : Nat) : Int) s.1 w' R (fun s' w'' => I s' w'' ∧ μ s' w'' < μ s w')

def S6_k0 (l_a : Option Addr) (l_l : Nat) (l_c : Nat) (id : Int) (head : Bool) (q : Option Addr) (t29 : Bool) (w : World) (R : Value → World → Prop) : Prop :=
  cond t29 (
    R (.bool false) w
  ) (
    S6_k1 l_a l_l l_c id head q w R
  )

def S6 (step : Int) (l_a : Option Addr) (l_l : Nat) (l_c : Nat) (id : Int) (w : World) (R : Value → World → Prop) : Prop :=
  Calls Try.prog 9 ⟨[]⟩ w fun e w_ =>
    ∃ (t16 : Bool),
    e = .returned (.bool t16) ∧
    (21 : Int) ≠ 0 ∧
    Calls Try.prog 10 ⟨[(.int .i64 (IntKind.i64.wrap (Int.tmod step 21)))]⟩ w_ fun e w__1 =>
      ∃ (t21_0 : Option Addr) (t21_1 : Int),
      e = .returned (.tuple ⟨[(.pointer t21_0), (.int .i64 t21_1)]⟩) ∧
      cond (Option.isNone t21_0) (
        S6_k0 l_a l_l l_c id t16 t21_0 true w__1 R
      ) (
        S6_k0 l_a l_l l_c id t16 t21_0 (!decide ((t21_1 : Int) = 0)) w__1 R
      )

theorem S6_eq (step : Int) (l_a : Option Addr) (l_l : Nat) (l_c : Nat) (id : Int) (w : World) (R : Value → World → Prop) : Eng.R Try.prog ⟨cal, S6_nx⟩ 91 S6_ann [] (Try.f6.body.getD .skip) (bodyQ Try.prog #[.tmp 6] R) (argE [(.int .u8 step), (.slice l_a l_l l_c), (.int .i64 id)]) w = S6 step l_a l_l l_c id w R := by kernel_rfl
/-- A call of 'carfax/carfaxlaw12.AgingDrops', by its condition. -/
theorem S6_calls {step : Int} {l_a : Option Addr} {l_l : Nat} {l_c : Nat} {id : Int} {w : World} {R : Value → World → Prop} (hS : S6 step l_a l_l l_c id w R) : Ret Try.prog 6 [(.int .u8 step), (.slice l_a l_l l_c), (.int .i64 id)] w R :=
  R_calls (C := ⟨cal, S6_nx⟩) cal_ok follows Try.func6 (c := Try.f6.body.getD .skip) (res := #[.tmp 6]) (n := 91) (by kernel_rfl) (by kernel_rfl) (by kernel_rfl) (by kernel_rfl) ((S6_eq step l_a l_l l_c id w R).mpr hS)

def S7_ann (p : List Nat) : Option LA := match p with
  | [0, 1, 0, 1, 1, 1, 1, 1, 1] => some ⟨[5, 6, 8, 54, 55], [(56, .one (.int .i64))]⟩
  | _ => none

def S7_nx (t : Nat) : Option (TypeId × TypeId) := none

def S7_k8 (head : Bool) (q : Option Addr) (w_ : Addr) (t54_a : Option Addr) (t54_l : Nat) (t54_c : Nat) (t55 : Int) (t56 : Int) (t153 : Bool) (w : World) (R : Value → World → Prop) (B1 : (Int) × Unit → World → Prop) : Prop :=
  cond t153 (
    R (.bool false) w
  ) (
    B1 ((IntKind.i64.wrap (t56 + 1)), ()) w
  )

def S7_k7 (head : Bool) (q : Option Addr) (w_ : Addr) (t54_a : Option Addr) (t54_l : Nat) (t54_c : Nat) (t55 : Int) (t56 : Int) (w : World) (R : Value → World → Prop) (B1 : (Int) × Unit → World → Prop) : Prop :=
  Calls Try.prog 21 ⟨[(.pointer q)]⟩ w fun e w__1 =>
    ∃ (t118_0 : Int) (t118_1 : Bool),
    e = .returned (.tuple ⟨[(.int .i64 t118_0), (.bool t118_1)]⟩) ∧
    Calls Try.prog 22 ⟨[(.pointer (some w_))]⟩ w__1 fun e w__2 =>
      ∃ (t123_0 : Int) (t123_1 : Bool),
      e = .returned (.tuple ⟨[(.int .i64 t123_0), (.bool t123_1)]⟩) ∧
      cond (!decide ((t118_0 : Int) = t123_0)) (
        (
          (
            S7_k8 head q w_ t54_a t54_l t54_c t55 t56 true w__2.drew R B1
          ) ∧
          (
            S7_k8 head q w_ t54_a t54_l t54_c t55 t56 true w__2.drew R B1
          )
        ) ∧
        (
          (
            S7_k8 head q w_ t54_a t54_l t54_c t55 t56 true w__2.drew R B1
          ) ∧
          (
            S7_k8 head q w_ t54_a t54_l t54_c t55 t56 true w__2.drew R B1
          )
        )
      ) (
        cond (!(t118_1 == t123_1)) (
          (
            (
              S7_k8 head q w_ t54_a t54_l t54_c t55 t56 true w__2.drew R B1
            ) ∧
            (
              S7_k8 head q w_ t54_a t54_l t54_c t55 t56 true w__2.drew R B1
            )
          ) ∧
          (
            (
              S7_k8 head q w_ t54_a t54_l t54_c t55 t56 true w__2.drew R B1
            ) ∧
            (
              S7_k8 head q w_ t54_a t54_l t54_c t55 t56 true w__2.drew R B1
            )
          )
        ) (
          ∃ (t138 : Addr),
          (some w_) = some t138 ∧
          (
            Calls Try.prog 16 ⟨[(.pointer q)]⟩ w__2.drew fun e w__3 =>
              ∃ (t136 : Int),
              e = .returned (.int .i64 t136) ∧
              ∃ (t140_a : Option Addr) (t140_l : Nat) (t140_c : Nat),
              w__3.cell? t138 = some (.slice t140_a t140_l t140_c) ∧
              cond (!decide ((t136 : Int) = ((t140_l : Nat) : Int))) (
                (
                  S7_k8 head q w_ t54_a t54_l t54_c t55 t56 true w__3 R B1
                ) ∧
                (
                  S7_k8 head q w_ t54_a t54_l t54_c t55 t56 true w__3 R B1
                )
              ) (
                ∃ (t148 : Addr),
                (some w_) = some t148 ∧
                (
                  Calls Try.prog 15 ⟨[(.pointer q)]⟩ w__3 fun e w__4 =>
                    ∃ (t146_a : Option Addr) (t146_l : Nat) (t146_c : Nat),
                    e = .returned (.slice t146_a t146_l t146_c) ∧
                    ∃ (t150_a : Option Addr) (t150_l : Nat) (t150_c : Nat),
                    w__4.cell? t148 = some (.slice t150_a t150_l t150_c) ∧
                    Calls Try.prog 17 ⟨[(.slice t146_a t146_l t146_c), (.slice t150_a t150_l t150_c)]⟩ w__4 fun e w__5 =>
                      ∃ (t151 : Bool),
                      e = .returned (.bool t151) ∧
                      S7_k8 head q w_ t54_a t54_l t54_c t55 t56 (!t151) w__5 R B1
                ) ∧
                (
                  ∃ (t150_a_1 : Option Addr) (t150_l_1 : Nat) (t150_c_1 : Nat),
                  w__3.cell? t148 = some (.slice t150_a_1 t150_l_1 t150_c_1) ∧
                  Calls Try.prog 15 ⟨[(.pointer q)]⟩ w__3 fun e w__6 =>
                    ∃ (t146_a_1 : Option Addr) (t146_l_1 : Nat) (t146_c_1 : Nat),
                    e = .returned (.slice t146_a_1 t146_l_1 t146_c_1) ∧
                    Calls Try.prog 17 ⟨[(.slice t146_a_1 t146_l_1 t146_c_1), (.slice t150_a_1 t150_l_1 t150_c_1)]⟩ w__6 fun e w__7 =>
                      ∃ (t151_1 : Bool),
                      e = .returned (.bool t151_1) ∧
                      S7_k8 head q w_ t54_a t54_l t54_c t55 t56 (!t151_1) w__7 R B1
                )
              )
          ) ∧
          (
            ∃ (t140_a_1 : Option Addr) (t140_l_1 : Nat) (t140_c_1 : Nat),
            w__2.drew.cell? t138 = some (.slice t140_a_1 t140_l_1 t140_c_1) ∧
            Calls Try.prog 16 ⟨[(.pointer q)]⟩ w__2.drew fun e w__8 =>
              ∃ (t136_1 : Int),
              e = .returned (.int .i64 t136_1) ∧
              cond (!decide ((t136_1 : Int) = ((t140_l_1 : Nat) : Int))) (
                (
                  S7_k8 head q w_ t54_a t54_l t54_c t55 t56 true w__8 R B1
                ) ∧
                (
                  S7_k8 head q w_ t54_a t54_l t54_c t55 t56 true w__8 R B1
                )
              ) (
                ∃ (t148_1 : Addr),
                (some w_) = some t148_1 ∧
                (
                  Calls Try.prog 15 ⟨[(.pointer q)]⟩ w__8 fun e w__9 =>
                    ∃ (t146_a_2 : Option Addr) (t146_l_2 : Nat) (t146_c_2 : Nat),
                    e = .returned (.slice t146_a_2 t146_l_2 t146_c_2) ∧
                    ∃ (t150_a_2 : Option Addr) (t150_l_2 : Nat) (t150_c_2 : Nat),
                    w__9.cell? t148_1 = some (.slice t150_a_2 t150_l_2 t150_c_2) ∧
                    Calls Try.prog 17 ⟨[(.slice t146_a_2 t146_l_2 t146_c_2), (.slice t150_a_2 t150_l_2 t150_c_2)]⟩ w__9 fun e w__10 =>
                      ∃ (t151_2 : Bool),
                      e = .returned (.bool t151_2) ∧
                      S7_k8 head q w_ t54_a t54_l t54_c t55 t56 (!t151_2) w__10 R B1
                ) ∧
                (
                  ∃ (t150_a_3 : Option Addr) (t150_l_3 : Nat) (t150_c_3 : Nat),
                  w__8.cell? t148_1 = some (.slice t150_a_3 t150_l_3 t150_c_3) ∧
                  Calls Try.prog 15 ⟨[(.pointer q)]⟩ w__8 fun e w__11 =>
                    ∃ (t146_a_3 : Option Addr) (t146_l_3 : Nat) (t146_c_3 : Nat),
                    e = .returned (.slice t146_a_3 t146_l_3 t146_c_3) ∧
                    Calls Try.prog 17 ⟨[(.slice t146_a_3 t146_l_3 t146_c_3), (.slice t150_a_3 t150_l_3 t150_c_3)]⟩ w__11 fun e w__12 =>
                      ∃ (t151_3 : Bool),
                      e = .returned (.bool t151_3) ∧
                      S7_k8 head q w_ t54_a t54_l t54_c t55 t56 (!t151_3) w__12 R B1
                )
              )
          )
        )
      )

def S7_k6 (head : Bool) (q : Option Addr) (w_ : Addr) (t54_a : Option Addr) (t54_l : Nat) (t54_c : Nat) (t55 : Int) (t56 : Int) (t95 : Bool) (w : World) (R : Value → World → Prop) (B1 : (Int) × Unit → World → Prop) : Prop :=
  cond t95 (
    R (.bool false) w
  ) (
    S7_k7 head q w_ t54_a t54_l t54_c t55 t56 w R B1
  )

def S7_k9 (head : Bool) (q : Option Addr) (w_ : Addr) (t54_a : Option Addr) (t54_l : Nat) (t54_c : Nat) (t55 : Int) (t56 : Int) (t115 : Bool) (w : World) (R : Value → World → Prop) (B1 : (Int) × Unit → World → Prop) : Prop :=
  cond t115 (
    R (.bool false) w
  ) (
    S7_k7 head q w_ t54_a t54_l t54_c t55 t56 w R B1
  )

def S7_k10 (head : Bool) (q : Option Addr) (w_ : Addr) (t54_a : Option Addr) (t54_l : Nat) (t54_c : Nat) (t55 : Int) (t56 : Int) (t71 : Bool) (w : World) (R : Value → World → Prop) (B1 : (Int) × Unit → World → Prop) : Prop :=
  cond t71 (
    R (.bool false) w
  ) (
    S7_k7 head q w_ t54_a t54_l t54_c t55 t56 w R B1
  )

def S7_k5 (head : Bool) (q : Option Addr) (w_ : Addr) (t54_a : Option Addr) (t54_l : Nat) (t54_c : Nat) (t55 : Int) (t56 : Int) (w : World) (R : Value → World → Prop) (B1 : (Int) × Unit → World → Prop) : Prop :=
  ∃ (t58 : Addr),
  t54_a = some t58 ∧
  0 ≤ (t56 : Int) ∧
  (t56 : Int) < ((t54_l : Nat) : Int) ∧
  ∃ (t59_0 : Int),
  w.cell? (t58.add (Int.toNat t56 * 2)) = some (.int .u8 t59_0) ∧
  ∃ (t59_1 : Int),
  w.cell? ((t58.add (Int.toNat t56 * 2)).add 1) = some (.int .i64 t59_1) ∧
  (∃ u, (w.alloc (.cells ⟨[(.int .u8 0), (.int .i64 0)]⟩ 31)).cell? ⟨w.heap.size, 0, none⟩ = some u) ∧
  (w.alloc (.cells ⟨[(.int .u8 0), (.int .i64 0)]⟩ 31)).frozen? ⟨w.heap.size, 0, none⟩ = false ∧
  (∃ u, ((w.alloc (.cells ⟨[(.int .u8 0), (.int .i64 0)]⟩ 31)).setCell ⟨w.heap.size, 0, none⟩ (.int .u8 t59_0)).cell? ⟨w.heap.size, 1, none⟩ = some u) ∧
  ((w.alloc (.cells ⟨[(.int .u8 0), (.int .i64 0)]⟩ 31)).setCell ⟨w.heap.size, 0, none⟩ (.int .u8 t59_0)).frozen? ⟨w.heap.size, 1, none⟩ = false ∧
  ∃ (t61 : Int),
  (((w.alloc (.cells ⟨[(.int .u8 0), (.int .i64 0)]⟩ 31)).setCell ⟨w.heap.size, 0, none⟩ (.int .u8 t59_0)).setCell ⟨w.heap.size, 1, none⟩ (.int .i64 t59_1)).cell? ⟨w.heap.size, 0, none⟩ = some (.int .u8 t61) ∧
  (3 : Int) ≠ 0 ∧
  cond (decide (((Int.tmod t61 3) : Int) = 0)) (
    ∃ (t77 : Int),
    (((w.alloc (.cells ⟨[(.int .u8 0), (.int .i64 0)]⟩ 31)).setCell ⟨w.heap.size, 0, none⟩ (.int .u8 t59_0)).setCell ⟨w.heap.size, 1, none⟩ (.int .i64 t59_1)).cell? ⟨w.heap.size, 1, none⟩ = some (.int .i64 t77) ∧
    Calls Try.prog 12 ⟨[(.pointer q), (.int .i64 t77)]⟩ (((w.alloc (.cells ⟨[(.int .u8 0), (.int .i64 0)]⟩ 31)).setCell ⟨w.heap.size, 0, none⟩ (.int .u8 t59_0)).setCell ⟨w.heap.size, 1, none⟩ (.int .i64 t59_1)) fun e w__1 =>
      ∃ (t78_0 : Int) (t78_1 : Int),
      e = .returned (.tuple ⟨[(.int .i64 t78_0), (.int .i64 t78_1)]⟩) ∧
      ∃ (t84 : Int),
      w__1.cell? ⟨w.heap.size, 1, none⟩ = some (.int .i64 t84) ∧
      Calls Try.prog 18 ⟨[(.pointer (some w_)), (.int .i64 t84)]⟩ w__1 fun e w__2 =>
        ∃ (t85_0 : Int) (t85_1 : Int),
        e = .returned (.tuple ⟨[(.int .i64 t85_0), (.int .i64 t85_1)]⟩) ∧
        cond (!decide ((t78_0 : Int) = t85_0)) (
          S7_k6 head q w_ t54_a t54_l t54_c t55 t56 true w__2 R B1
        ) (
          S7_k6 head q w_ t54_a t54_l t54_c t55 t56 (!decide ((t78_1 : Int) = t85_1)) w__2 R B1
        )
  ) (
    cond (decide (((Int.tmod t61 3) : Int) = 1)) (
      Calls Try.prog 13 ⟨[(.pointer q)]⟩ (((w.alloc (.cells ⟨[(.int .u8 0), (.int .i64 0)]⟩ 31)).setCell ⟨w.heap.size, 0, none⟩ (.int .u8 t59_0)).setCell ⟨w.heap.size, 1, none⟩ (.int .i64 t59_1)) fun e w__3 =>
        ∃ (t100_0 : Int) (t100_1 : Bool),
        e = .returned (.tuple ⟨[(.int .i64 t100_0), (.bool t100_1)]⟩) ∧
        Calls Try.prog 19 ⟨[(.pointer (some w_))]⟩ w__3 fun e w__4 =>
          ∃ (t105_0 : Int) (t105_1 : Bool),
          e = .returned (.tuple ⟨[(.int .i64 t105_0), (.bool t105_1)]⟩) ∧
          cond (!decide ((t100_0 : Int) = t105_0)) (
            S7_k9 head q w_ t54_a t54_l t54_c t55 t56 true w__4 R B1
          ) (
            S7_k9 head q w_ t54_a t54_l t54_c t55 t56 (!(t100_1 == t105_1)) w__4 R B1
          )
    ) (
      ∃ (t65 : Int),
      (((w.alloc (.cells ⟨[(.int .u8 0), (.int .i64 0)]⟩ 31)).setCell ⟨w.heap.size, 0, none⟩ (.int .u8 t59_0)).setCell ⟨w.heap.size, 1, none⟩ (.int .i64 t59_1)).drew.cell? ⟨w.heap.size, 1, none⟩ = some (.int .i64 t65) ∧
      (
        Calls Try.prog 14 ⟨[(.pointer q), (.int .i64 t65)]⟩ (((w.alloc (.cells ⟨[(.int .u8 0), (.int .i64 0)]⟩ 31)).setCell ⟨w.heap.size, 0, none⟩ (.int .u8 t59_0)).setCell ⟨w.heap.size, 1, none⟩ (.int .i64 t59_1)).drew fun e w__5 =>
          ∃ (t66 : Bool),
          e = .returned (.bool t66) ∧
          ∃ (t69 : Int),
          w__5.cell? ⟨w.heap.size, 1, none⟩ = some (.int .i64 t69) ∧
          Calls Try.prog 20 ⟨[(.pointer (some w_)), (.int .i64 t69)]⟩ w__5 fun e w__6 =>
            ∃ (t70 : Bool),
            e = .returned (.bool t70) ∧
            S7_k10 head q w_ t54_a t54_l t54_c t55 t56 (!(t66 == t70)) w__6 R B1
      ) ∧
      (
        ∃ (t69_1 : Int),
        (((w.alloc (.cells ⟨[(.int .u8 0), (.int .i64 0)]⟩ 31)).setCell ⟨w.heap.size, 0, none⟩ (.int .u8 t59_0)).setCell ⟨w.heap.size, 1, none⟩ (.int .i64 t59_1)).drew.cell? ⟨w.heap.size, 1, none⟩ = some (.int .i64 t69_1) ∧
        Calls Try.prog 14 ⟨[(.pointer q), (.int .i64 t65)]⟩ (((w.alloc (.cells ⟨[(.int .u8 0), (.int .i64 0)]⟩ 31)).setCell ⟨w.heap.size, 0, none⟩ (.int .u8 t59_0)).setCell ⟨w.heap.size, 1, none⟩ (.int .i64 t59_1)).drew fun e w__7 =>
          ∃ (t66_1 : Bool),
          e = .returned (.bool t66_1) ∧
          Calls Try.prog 20 ⟨[(.pointer (some w_)), (.int .i64 t69_1)]⟩ w__7 fun e w__8 =>
            ∃ (t70_1 : Bool),
            e = .returned (.bool t70_1) ∧
            S7_k10 head q w_ t54_a t54_l t54_c t55 t56 (!(t66_1 == t70_1)) w__8 R B1
      )
    )
  )

def S7_L4 (head : Bool) (q : Option Addr) (w_ : Addr) (t54_a : Option Addr) (t54_l : Nat) (t54_c : Nat) (t55 : Int) (t56 : Int) (w : World) (R : Value → World → Prop) (B1 : (Int) × Unit → World → Prop) : Prop :=
  cond (decide ((t56 : Int) < t55)) (
    S7_k5 head q w_ t54_a t54_l t54_c t55 t56 w R B1
  ) (
    R (.bool head) w
  )

def S7_k3 (step : Int) (l_a : Option Addr) (l_l : Nat) (l_c : Nat) (head : Bool) (q : Option Addr) (w : World) (R : Value → World → Prop) : Prop :=
  Calls Try.prog 11 ⟨[(.slice l_a l_l l_c)]⟩ (w.alloc (.cells ⟨[(.slice none 0 0), (.int .i64 0), (.int .i64 step)]⟩ 48)) fun e w_ =>
    ∃ (t54_a : Option Addr) (t54_l : Nat) (t54_c : Nat),
    e = .returned (.slice t54_a t54_l t54_c) ∧
    ∃ (I : (Int) × Unit → World → Prop) (μ : (Int) × Unit → World → Nat),
    I (0, ()) w_ ∧
    ∀ (J : Env) (s : (Int) × Unit) (w' : World), I s w' →
      S7_L4 head q ⟨w.heap.size, 0, none⟩ t54_a t54_l t54_c ((t54_l : Nat) : Int) s.1 w' R (fun s' w'' => I s' w'' ∧ μ s' w'' < μ s w')

def S7_k2 (step : Int) (l_a : Option Addr) (l_l : Nat) (l_c : Nat) (head : Bool) (q : Option Addr) (t49 : Bool) (w : World) (R : Value → World → Prop) : Prop :=
  cond t49 (
    R (.bool false) w
  ) (
    S7_k3 step l_a l_l l_c head q w R
  )

def S7_k1 (step : Int) (l_a : Option Addr) (l_l : Nat) (l_c : Nat) (head : Bool) (q : Option Addr) (e_1 : Int) (w : World) (R : Value → World → Prop) : Prop :=
  cond (Option.isNone q) (
    S7_k2 step l_a l_l l_c head q true w R
  ) (
    S7_k2 step l_a l_l l_c head q (!decide ((e_1 : Int) = 0)) w R
  )

def S7_k0 (step : Int) (l_a : Option Addr) (l_l : Nat) (l_c : Nat) (head : Bool) (q : Option Addr) (e_1 : Int) (t34 : Bool) (w : World) (R : Value → World → Prop) : Prop :=
  cond t34 (
    cond head (
      cond (Option.isNone q) (
        R (.bool (decide ((e_1 : Int) = 1))) w
      ) (
        R (.bool false) w
      )
    ) (
      R (.bool false) w
    )
  ) (
    S7_k1 step l_a l_l l_c head q e_1 w R
  )

def S7 (step : Int) (l_a : Option Addr) (l_l : Nat) (l_c : Nat) (w : World) (R : Value → World → Prop) : Prop :=
  Calls Try.prog 9 ⟨[]⟩ w fun e w_ =>
    ∃ (t23 : Bool),
    e = .returned (.bool t23) ∧
    Calls Try.prog 10 ⟨[(.int .i64 step)]⟩ w_ fun e w__1 =>
      ∃ (t26_0 : Option Addr) (t26_1 : Int),
      e = .returned (.tuple ⟨[(.pointer t26_0), (.int .i64 t26_1)]⟩) ∧
      cond (decide ((step : Int) < 0)) (
        S7_k0 step l_a l_l l_c t23 t26_0 t26_1 true w__1 R
      ) (
        S7_k0 step l_a l_l l_c t23 t26_0 t26_1 (decide ((1000 : Int) < step)) w__1 R
      )

theorem S7_eq (step : Int) (l_a : Option Addr) (l_l : Nat) (l_c : Nat) (w : World) (R : Value → World → Prop) : Eng.R Try.prog ⟨cal, S7_nx⟩ 156 S7_ann [] (Try.f7.body.getD .skip) (bodyQ Try.prog #[.tmp 4] R) (argE [(.int .i64 step), (.slice l_a l_l l_c)]) w = S7 step l_a l_l l_c w R := by kernel_rfl
/-- A call of 'carfax/carfaxlaw12.AgingPlays', by its condition. -/
theorem S7_calls {step : Int} {l_a : Option Addr} {l_l : Nat} {l_c : Nat} {w : World} {R : Value → World → Prop} (hS : S7 step l_a l_l l_c w R) : Ret Try.prog 7 [(.int .i64 step), (.slice l_a l_l l_c)] w R :=
  R_calls (C := ⟨cal, S7_nx⟩) cal_ok follows Try.func7 (c := Try.f7.body.getD .skip) (res := #[.tmp 4]) (n := 156) (by kernel_rfl) (by kernel_rfl) (by kernel_rfl) (by kernel_rfl) ((S7_eq step l_a l_l l_c w R).mpr hS)

def S8_ann (p : List Nat) : Option LA := match p with
  | [0, 1, 0, 1, 1, 1, 1, 1] => some ⟨[5, 6, 7, 40, 41], [(42, .one (.int .i64))]⟩
  | [0, 1, 0, 1, 1, 1, 1, 1, 1, 0, 0, 1, 1, 0, 0, 1, 0, 1, 1, 1, 1, 1] => some ⟨[5, 6, 7, 10, 11, 12, 13, 14, 15, 19, 40, 41, 42, 58, 59], [(16, .one .bool), (17, .one .bool), (18, .one (.int .i64)), (60, .one (.int .i64))]⟩
  | _ => none

def S8_nx (t : Nat) : Option (TypeId × TypeId) := none

def S8_k6 (head : Bool) (n_ : Int) (q : Option Addr) (a : Addr) (all_a : Option Addr) (all_l : Nat) (all_c : Nat) (id : Int) (is : Bool) (again : Int) (was : Bool) (due : Bool) (found : Bool) (top : Int) (w_ : Addr) (x : Addr) (t40_a : Option Addr) (t40_l : Nat) (t40_c : Nat) (t41 : Int) (t42 : Int) (t58_a : Option Addr) (t58_l : Nat) (t58_c : Nat) (t59 : Int) (t60 : Int) (w : World) (R : Value → World → Prop) (B1 : (Int) × Unit → World → Prop) (B2 : (Bool) × (Bool) × (Int) × (Int) × Unit → World → Prop) : Prop :=
  ∃ (t77 : Int),
  w.cell? (x.add 1) = some (.int .i64 t77) ∧
  ∃ (t80 : Int),
  w.cell? x = some (.int .i64 t80) ∧
  cond (decide ((t80 : Int) = id)) (
    ∃ (t83_0 : Int),
    w.cell? x = some (.int .i64 t83_0) ∧
    ∃ (t83_1 : Int),
    w.cell? (x.add 1) = some (.int .i64 t83_1) ∧
    ∃ (t83_2 : Int),
    w.cell? (x.add 2) = some (.int .i64 t83_2) ∧
    (∃ u, w.cell? w_ = some u) ∧
    w.frozen? w_ = false ∧
    (∃ u, (w.setCell w_ (.int .i64 t83_0)).cell? (w_.add 1) = some u) ∧
    (w.setCell w_ (.int .i64 t83_0)).frozen? (w_.add 1) = false ∧
    (∃ u, ((w.setCell w_ (.int .i64 t83_0)).setCell (w_.add 1) (.int .i64 t83_1)).cell? (w_.add 2) = some u) ∧
    ((w.setCell w_ (.int .i64 t83_0)).setCell (w_.add 1) (.int .i64 t83_1)).frozen? (w_.add 2) = false ∧
    B2 (due, true, (if t77 > top then t77 else top), (IntKind.i64.wrap (t60 + 1)), ()) (((w.setCell w_ (.int .i64 t83_0)).setCell (w_.add 1) (.int .i64 t83_1)).setCell (w_.add 2) (.int .i64 t83_2))
  ) (
    B2 (due, found, (if t77 > top then t77 else top), (IntKind.i64.wrap (t60 + 1)), ()) w
  )

def S8_k5 (head : Bool) (n_ : Int) (q : Option Addr) (a : Addr) (all_a : Option Addr) (all_l : Nat) (all_c : Nat) (id : Int) (is : Bool) (again : Int) (was : Bool) (due : Bool) (found : Bool) (top : Int) (w_ : Addr) (t40_a : Option Addr) (t40_l : Nat) (t40_c : Nat) (t41 : Int) (t42 : Int) (t58_a : Option Addr) (t58_l : Nat) (t58_c : Nat) (t59 : Int) (t60 : Int) (w : World) (R : Value → World → Prop) (B1 : (Int) × Unit → World → Prop) (B2 : (Bool) × (Bool) × (Int) × (Int) × Unit → World → Prop) : Prop :=
  ∃ (t62 : Addr),
  t58_a = some t62 ∧
  0 ≤ (t60 : Int) ∧
  (t60 : Int) < ((t58_l : Nat) : Int) ∧
  ∃ (t63_0 : Int),
  w.cell? (t62.add (Int.toNat t60 * 3)) = some (.int .i64 t63_0) ∧
  ∃ (t63_1 : Int),
  w.cell? ((t62.add (Int.toNat t60 * 3)).add 1) = some (.int .i64 t63_1) ∧
  ∃ (t63_2 : Int),
  w.cell? ((t62.add (Int.toNat t60 * 3)).add 2) = some (.int .i64 t63_2) ∧
  (∃ u, (w.alloc (.cells ⟨[(.int .i64 0), (.int .i64 0), (.int .i64 0)]⟩ 40)).cell? ⟨w.heap.size, 0, none⟩ = some u) ∧
  (w.alloc (.cells ⟨[(.int .i64 0), (.int .i64 0), (.int .i64 0)]⟩ 40)).frozen? ⟨w.heap.size, 0, none⟩ = false ∧
  (∃ u, ((w.alloc (.cells ⟨[(.int .i64 0), (.int .i64 0), (.int .i64 0)]⟩ 40)).setCell ⟨w.heap.size, 0, none⟩ (.int .i64 t63_0)).cell? ⟨w.heap.size, 1, none⟩ = some u) ∧
  ((w.alloc (.cells ⟨[(.int .i64 0), (.int .i64 0), (.int .i64 0)]⟩ 40)).setCell ⟨w.heap.size, 0, none⟩ (.int .i64 t63_0)).frozen? ⟨w.heap.size, 1, none⟩ = false ∧
  (∃ u, (((w.alloc (.cells ⟨[(.int .i64 0), (.int .i64 0), (.int .i64 0)]⟩ 40)).setCell ⟨w.heap.size, 0, none⟩ (.int .i64 t63_0)).setCell ⟨w.heap.size, 1, none⟩ (.int .i64 t63_1)).cell? ⟨w.heap.size, 2, none⟩ = some u) ∧
  (((w.alloc (.cells ⟨[(.int .i64 0), (.int .i64 0), (.int .i64 0)]⟩ 40)).setCell ⟨w.heap.size, 0, none⟩ (.int .i64 t63_0)).setCell ⟨w.heap.size, 1, none⟩ (.int .i64 t63_1)).frozen? ⟨w.heap.size, 2, none⟩ = false ∧
  cond due (
    S8_k6 head n_ q a all_a all_l all_c id is again was true found top w_ ⟨w.heap.size, 0, none⟩ t40_a t40_l t40_c t41 t42 t58_a t58_l t58_c t59 t60 ((((w.alloc (.cells ⟨[(.int .i64 0), (.int .i64 0), (.int .i64 0)]⟩ 40)).setCell ⟨w.heap.size, 0, none⟩ (.int .i64 t63_0)).setCell ⟨w.heap.size, 1, none⟩ (.int .i64 t63_1)).setCell ⟨w.heap.size, 2, none⟩ (.int .i64 t63_2)) R B1 B2
  ) (
    ∃ (t67 : Int),
    ((((w.alloc (.cells ⟨[(.int .i64 0), (.int .i64 0), (.int .i64 0)]⟩ 40)).setCell ⟨w.heap.size, 0, none⟩ (.int .i64 t63_0)).setCell ⟨w.heap.size, 1, none⟩ (.int .i64 t63_1)).setCell ⟨w.heap.size, 2, none⟩ (.int .i64 t63_2)).cell? ⟨w.heap.size, 2, none⟩ = some (.int .i64 t67) ∧
    ∃ (t70 : Int),
    ((((w.alloc (.cells ⟨[(.int .i64 0), (.int .i64 0), (.int .i64 0)]⟩ 40)).setCell ⟨w.heap.size, 0, none⟩ (.int .i64 t63_0)).setCell ⟨w.heap.size, 1, none⟩ (.int .i64 t63_1)).setCell ⟨w.heap.size, 2, none⟩ (.int .i64 t63_2)).cell? ⟨w.heap.size, 1, none⟩ = some (.int .i64 t70) ∧
    S8_k6 head n_ q a all_a all_l all_c id is again was (decide (((IntKind.i64.wrap (n_ * (IntKind.i64.wrap (5 - t70)))) : Int) ≤ t67)) found top w_ ⟨w.heap.size, 0, none⟩ t40_a t40_l t40_c t41 t42 t58_a t58_l t58_c t59 t60 ((((w.alloc (.cells ⟨[(.int .i64 0), (.int .i64 0), (.int .i64 0)]⟩ 40)).setCell ⟨w.heap.size, 0, none⟩ (.int .i64 t63_0)).setCell ⟨w.heap.size, 1, none⟩ (.int .i64 t63_1)).setCell ⟨w.heap.size, 2, none⟩ (.int .i64 t63_2)) R B1 B2
  )

def S8_k12 (head : Bool) (n_ : Int) (q : Option Addr) (t40_a : Option Addr) (t40_l : Nat) (t40_c : Nat) (t41 : Int) (t42 : Int) (t167 : Bool) (w : World) (R : Value → World → Prop) (B1 : (Int) × Unit → World → Prop) : Prop :=
  cond t167 (
    R (.bool false) w
  ) (
    B1 ((IntKind.i64.wrap (t42 + 1)), ()) w
  )

def S8_k11 (head : Bool) (n_ : Int) (q : Option Addr) (a : Addr) (id : Int) (is : Bool) (t40_a : Option Addr) (t40_l : Nat) (t40_c : Nat) (t41 : Int) (t42 : Int) (w : World) (R : Value → World → Prop) (B1 : (Int) × Unit → World → Prop) : Prop :=
  ∃ (t141 : Int),
  w.cell? a = some (.int .u8 t141) ∧
  (3 : Int) ≠ 0 ∧
  cond (decide (((Int.tmod t141 3) : Int) = 0)) (
    ∃ (t151 : Int),
    w.cell? (a.add 1) = some (.int .i64 t151) ∧
    Calls Try.prog 12 ⟨[(.pointer q), (.int .i64 t151)]⟩ w fun e w_ =>
      ∃ (t152_0 : Int) (t152_1 : Int),
      e = .returned (.tuple ⟨[(.int .i64 t152_0), (.int .i64 t152_1)]⟩) ∧
      B1 ((IntKind.i64.wrap (t42 + 1)), ()) w_
  ) (
    cond (decide (((Int.tmod t141 3) : Int) = 1)) (
      Calls Try.prog 13 ⟨[(.pointer q)]⟩ w fun e w__1 =>
        ∃ (t157_0 : Int) (t157_1 : Bool),
        e = .returned (.tuple ⟨[(.int .i64 t157_0), (.bool t157_1)]⟩) ∧
        cond (!decide ((t157_0 : Int) = id)) (
          S8_k12 head n_ q t40_a t40_l t40_c t41 t42 true w__1 R B1
        ) (
          S8_k12 head n_ q t40_a t40_l t40_c t41 t42 (!(t157_1 == is)) w__1 R B1
        )
    ) (
      ∃ (t145 : Int),
      w.cell? (a.add 1) = some (.int .i64 t145) ∧
      Calls Try.prog 14 ⟨[(.pointer q), (.int .i64 t145)]⟩ w fun e w__2 =>
        ∃ (t146 : Bool),
        e = .returned (.bool t146) ∧
        B1 ((IntKind.i64.wrap (t42 + 1)), ()) w__2
    )
  )

def S8_k10 (head : Bool) (n_ : Int) (q : Option Addr) (a : Addr) (id : Int) (is : Bool) (t40_a : Option Addr) (t40_l : Nat) (t40_c : Nat) (t41 : Int) (t42 : Int) (t139 : Bool) (w : World) (R : Value → World → Prop) (B1 : (Int) × Unit → World → Prop) : Prop :=
  cond t139 (
    R (.bool false) w
  ) (
    S8_k11 head n_ q a id is t40_a t40_l t40_c t41 t42 w R B1
  )

def S8_k9 (head : Bool) (n_ : Int) (q : Option Addr) (a : Addr) (id : Int) (is : Bool) (due : Bool) (top : Int) (w_ : Addr) (t40_a : Option Addr) (t40_l : Nat) (t40_c : Nat) (t41 : Int) (t42 : Int) (w : World) (R : Value → World → Prop) (B1 : (Int) × Unit → World → Prop) : Prop :=
  cond is (
    ∃ (t118 : Int),
    w.cell? (w_.add 2) = some (.int .i64 t118) ∧
    ∃ (t121 : Int),
    w.cell? (w_.add 1) = some (.int .i64 t121) ∧
    cond (!(due == (decide (((IntKind.i64.wrap (n_ * (IntKind.i64.wrap (5 - t121)))) : Int) ≤ t118)))) (
      S8_k10 head n_ q a id is t40_a t40_l t40_c t41 t42 true w R B1
    ) (
      cond is (
        cond (!due) (
          ∃ (t135 : Int),
          w.cell? (w_.add 1) = some (.int .i64 t135) ∧
          S8_k10 head n_ q a id is t40_a t40_l t40_c t41 t42 (!decide ((t135 : Int) = top)) w R B1
        ) (
          S8_k10 head n_ q a id is t40_a t40_l t40_c t41 t42 false w R B1
        )
      ) (
        S8_k10 head n_ q a id is t40_a t40_l t40_c t41 t42 false w R B1
      )
    )
  ) (
    cond is (
      cond (!due) (
        ∃ (t135_1 : Int),
        w.cell? (w_.add 1) = some (.int .i64 t135_1) ∧
        S8_k10 head n_ q a id is t40_a t40_l t40_c t41 t42 (!decide ((t135_1 : Int) = top)) w R B1
      ) (
        S8_k10 head n_ q a id is t40_a t40_l t40_c t41 t42 false w R B1
      )
    ) (
      S8_k10 head n_ q a id is t40_a t40_l t40_c t41 t42 false w R B1
    )
  )

def S8_k8 (head : Bool) (n_ : Int) (q : Option Addr) (a : Addr) (id : Int) (is : Bool) (due : Bool) (top : Int) (w_ : Addr) (t40_a : Option Addr) (t40_l : Nat) (t40_c : Nat) (t41 : Int) (t42 : Int) (t113 : Bool) (w : World) (R : Value → World → Prop) (B1 : (Int) × Unit → World → Prop) : Prop :=
  cond t113 (
    R (.bool false) w
  ) (
    S8_k9 head n_ q a id is due top w_ t40_a t40_l t40_c t41 t42 w R B1
  )

def S8_k7 (head : Bool) (n_ : Int) (q : Option Addr) (a : Addr) (all_a : Option Addr) (all_l : Nat) (all_c : Nat) (id : Int) (is : Bool) (again : Int) (was : Bool) (due : Bool) (found : Bool) (top : Int) (w_ : Addr) (t40_a : Option Addr) (t40_l : Nat) (t40_c : Nat) (t41 : Int) (t42 : Int) (w : World) (R : Value → World → Prop) (B1 : (Int) × Unit → World → Prop) : Prop :=
  cond (!(is == (decide ((0 : Int) < ((all_l : Nat) : Int))))) (
    S8_k8 head n_ q a id is due top w_ t40_a t40_l t40_c t41 t42 true w R B1
  ) (
    cond (!decide ((id : Int) = again)) (
      S8_k8 head n_ q a id is due top w_ t40_a t40_l t40_c t41 t42 true w R B1
    ) (
      cond (!(is == was)) (
        S8_k8 head n_ q a id is due top w_ t40_a t40_l t40_c t41 t42 true w R B1
      ) (
        cond is (
          cond (!found) (
            S8_k8 head n_ q a id is due top w_ t40_a t40_l t40_c t41 t42 true w R B1
          ) (
            Calls Try.prog 15 ⟨[(.pointer q)]⟩ w fun e w__1 =>
              ∃ (t109_a : Option Addr) (t109_l : Nat) (t109_c : Nat),
              e = .returned (.slice t109_a t109_l t109_c) ∧
              Calls Try.prog 17 ⟨[(.slice t109_a t109_l t109_c), (.slice all_a all_l all_c)]⟩ w__1 fun e w__2 =>
                ∃ (t111 : Bool),
                e = .returned (.bool t111) ∧
                S8_k8 head n_ q a id is due top w_ t40_a t40_l t40_c t41 t42 (!t111) w__2 R B1
          )
        ) (
          Calls Try.prog 15 ⟨[(.pointer q)]⟩ w fun e w__3 =>
            ∃ (t109_a_1 : Option Addr) (t109_l_1 : Nat) (t109_c_1 : Nat),
            e = .returned (.slice t109_a_1 t109_l_1 t109_c_1) ∧
            Calls Try.prog 17 ⟨[(.slice t109_a_1 t109_l_1 t109_c_1), (.slice all_a all_l all_c)]⟩ w__3 fun e w__4 =>
              ∃ (t111_1 : Bool),
              e = .returned (.bool t111_1) ∧
              S8_k8 head n_ q a id is due top w_ t40_a t40_l t40_c t41 t42 (!t111_1) w__4 R B1
        )
      )
    )
  )

def S8_L4 (head : Bool) (n_ : Int) (q : Option Addr) (a : Addr) (all_a : Option Addr) (all_l : Nat) (all_c : Nat) (id : Int) (is : Bool) (again : Int) (was : Bool) (due : Bool) (found : Bool) (top : Int) (w_ : Addr) (t40_a : Option Addr) (t40_l : Nat) (t40_c : Nat) (t41 : Int) (t42 : Int) (t58_a : Option Addr) (t58_l : Nat) (t58_c : Nat) (t59 : Int) (t60 : Int) (w : World) (R : Value → World → Prop) (B1 : (Int) × Unit → World → Prop) (B2 : (Bool) × (Bool) × (Int) × (Int) × Unit → World → Prop) : Prop :=
  cond (decide ((t60 : Int) < t59)) (
    S8_k5 head n_ q a all_a all_l all_c id is again was due found top w_ t40_a t40_l t40_c t41 t42 t58_a t58_l t58_c t59 t60 w R B1 B2
  ) (
    S8_k7 head n_ q a all_a all_l all_c id is again was due found top w_ t40_a t40_l t40_c t41 t42 w R B1
  )

def S8_k3 (head : Bool) (n_ : Int) (q : Option Addr) (t40_a : Option Addr) (t40_l : Nat) (t40_c : Nat) (t41 : Int) (t42 : Int) (w : World) (R : Value → World → Prop) (B1 : (Int) × Unit → World → Prop) : Prop :=
  ∃ (t44 : Addr),
  t40_a = some t44 ∧
  0 ≤ (t42 : Int) ∧
  (t42 : Int) < ((t40_l : Nat) : Int) ∧
  ∃ (t45_0 : Int),
  w.cell? (t44.add (Int.toNat t42 * 2)) = some (.int .u8 t45_0) ∧
  ∃ (t45_1 : Int),
  w.cell? ((t44.add (Int.toNat t42 * 2)).add 1) = some (.int .i64 t45_1) ∧
  (∃ u, (w.alloc (.cells ⟨[(.int .u8 0), (.int .i64 0)]⟩ 31)).cell? ⟨w.heap.size, 0, none⟩ = some u) ∧
  (w.alloc (.cells ⟨[(.int .u8 0), (.int .i64 0)]⟩ 31)).frozen? ⟨w.heap.size, 0, none⟩ = false ∧
  (∃ u, ((w.alloc (.cells ⟨[(.int .u8 0), (.int .i64 0)]⟩ 31)).setCell ⟨w.heap.size, 0, none⟩ (.int .u8 t45_0)).cell? ⟨w.heap.size, 1, none⟩ = some u) ∧
  ((w.alloc (.cells ⟨[(.int .u8 0), (.int .i64 0)]⟩ 31)).setCell ⟨w.heap.size, 0, none⟩ (.int .u8 t45_0)).frozen? ⟨w.heap.size, 1, none⟩ = false ∧
  Calls Try.prog 15 ⟨[(.pointer q)]⟩ (((w.alloc (.cells ⟨[(.int .u8 0), (.int .i64 0)]⟩ 31)).setCell ⟨w.heap.size, 0, none⟩ (.int .u8 t45_0)).setCell ⟨w.heap.size, 1, none⟩ (.int .i64 t45_1)) fun e w_ =>
    ∃ (t47_a : Option Addr) (t47_l : Nat) (t47_c : Nat),
    e = .returned (.slice t47_a t47_l t47_c) ∧
    Calls Try.prog 21 ⟨[(.pointer q)]⟩ w_ fun e w__1 =>
      ∃ (t50_0 : Int) (t50_1 : Bool),
      e = .returned (.tuple ⟨[(.int .i64 t50_0), (.bool t50_1)]⟩) ∧
      Calls Try.prog 21 ⟨[(.pointer q)]⟩ w__1 fun e w__2 =>
        ∃ (t55_0 : Int) (t55_1 : Bool),
        e = .returned (.tuple ⟨[(.int .i64 t55_0), (.bool t55_1)]⟩) ∧
        ∃ (I : (Bool) × (Bool) × (Int) × (Int) × Unit → World → Prop) (μ : (Bool) × (Bool) × (Int) × (Int) × Unit → World → Nat),
        I (false, false, 0, 0, ()) (w__2.alloc (.cells ⟨[(.int .i64 0), (.int .i64 0), (.int .i64 0)]⟩ 40)) ∧
        ∀ (J : Env) (s : (Bool) × (Bool) × (Int) × (Int) × Unit) (w' : World), I s w' →
          S8_L4 head n_ q ⟨w.heap.size, 0, none⟩ t47_a t47_l t47_c t50_0 t50_1 t55_0 t55_1 s.1 s.2.1 s.2.2.1 ⟨w__2.heap.size, 0, none⟩ t40_a t40_l t40_c t41 t42 t47_a t47_l t47_c ((t47_l : Nat) : Int) s.2.2.2.1 w' R B1 (fun s' w'' => I s' w'' ∧ μ s' w'' < μ s w')

def S8_L2 (head : Bool) (n_ : Int) (q : Option Addr) (t40_a : Option Addr) (t40_l : Nat) (t40_c : Nat) (t41 : Int) (t42 : Int) (w : World) (R : Value → World → Prop) (B1 : (Int) × Unit → World → Prop) : Prop :=
  cond (decide ((t42 : Int) < t41)) (
    S8_k3 head n_ q t40_a t40_l t40_c t41 t42 w R B1
  ) (
    R (.bool head) w
  )

def S8_k1 (l_a : Option Addr) (l_l : Nat) (l_c : Nat) (head : Bool) (n_ : Int) (q : Option Addr) (w : World) (R : Value → World → Prop) : Prop :=
  Calls Try.prog 11 ⟨[(.slice l_a l_l l_c)]⟩ w fun e w_ =>
    ∃ (t40_a : Option Addr) (t40_l : Nat) (t40_c : Nat),
    e = .returned (.slice t40_a t40_l t40_c) ∧
    ∃ (I : (Int) × Unit → World → Prop) (μ : (Int) × Unit → World → Nat),
    I (0, ()) w_ ∧
    ∀ (J : Env) (s : (Int) × Unit) (w' : World), I s w' →
      S8_L2 head n_ q t40_a t40_l t40_c ((t40_l : Nat) : Int) s.1 w' R (fun s' w'' => I s' w'' ∧ μ s' w'' < μ s w')

def S8_k0 (l_a : Option Addr) (l_l : Nat) (l_c : Nat) (head : Bool) (n_ : Int) (q : Option Addr) (t38 : Bool) (w : World) (R : Value → World → Prop) : Prop :=
  cond t38 (
    R (.bool false) w
  ) (
    S8_k1 l_a l_l l_c head n_ q w R
  )

def S8 (step : Int) (l_a : Option Addr) (l_l : Nat) (l_c : Nat) (w : World) (R : Value → World → Prop) : Prop :=
  Calls Try.prog 9 ⟨[]⟩ w fun e w_ =>
    ∃ (t24 : Bool),
    e = .returned (.bool t24) ∧
    (21 : Int) ≠ 0 ∧
    Calls Try.prog 10 ⟨[(.int .i64 (IntKind.i64.wrap (Int.tmod step 21)))]⟩ w_ fun e w__1 =>
      ∃ (t30_0 : Option Addr) (t30_1 : Int),
      e = .returned (.tuple ⟨[(.pointer t30_0), (.int .i64 t30_1)]⟩) ∧
      cond (Option.isNone t30_0) (
        S8_k0 l_a l_l l_c t24 (IntKind.i64.wrap (Int.tmod step 21)) t30_0 true w__1 R
      ) (
        S8_k0 l_a l_l l_c t24 (IntKind.i64.wrap (Int.tmod step 21)) t30_0 (!decide ((t30_1 : Int) = 0)) w__1 R
      )

theorem S8_eq (step : Int) (l_a : Option Addr) (l_l : Nat) (l_c : Nat) (w : World) (R : Value → World → Prop) : Eng.R Try.prog ⟨cal, S8_nx⟩ 170 S8_ann [] (Try.f8.body.getD .skip) (bodyQ Try.prog #[.tmp 4] R) (argE [(.int .u8 step), (.slice l_a l_l l_c)]) w = S8 step l_a l_l l_c w R := by kernel_rfl
/-- A call of 'carfax/carfaxlaw12.AgingNext', by its condition. -/
theorem S8_calls {step : Int} {l_a : Option Addr} {l_l : Nat} {l_c : Nat} {w : World} {R : Value → World → Prop} (hS : S8 step l_a l_l l_c w R) : Ret Try.prog 8 [(.int .u8 step), (.slice l_a l_l l_c)] w R :=
  R_calls (C := ⟨cal, S8_nx⟩) cal_ok follows Try.func8 (c := Try.f8.body.getD .skip) (res := #[.tmp 4]) (n := 170) (by kernel_rfl) (by kernel_rfl) (by kernel_rfl) (by kernel_rfl) ((S8_eq step l_a l_l l_c w R).mpr hS)

def S9_ann (p : List Nat) : Option LA := match p with
  | [0, 1, 0, 1, 1, 1] => some ⟨[1, 23, 24], [(25, .one (.int .i64))]⟩
  | [0, 1, 0, 1, 1, 1, 1, 1] => some ⟨[1, 5, 38, 39], [(40, .one (.int .i64))]⟩
  | [0, 1, 0, 1, 1, 1, 1, 1, 1] => some ⟨[1, 5, 48, 49], [(50, .one (.int .i64))]⟩
  | _ => none

def S9_nx (t : Nat) : Option (TypeId × TypeId) := none

def S9_k3 (q : Option Addr) (t23_a : Option Addr) (t23_l : Nat) (t23_c : Nat) (t24 : Int) (t25 : Int) (w : World) (R : Value → World → Prop) (B1 : (Int) × Unit → World → Prop) : Prop :=
  ∃ (t27 : Addr),
  t23_a = some t27 ∧
  0 ≤ (t25 : Int) ∧
  (t25 : Int) < ((t23_l : Nat) : Int) ∧
  ∃ (t28 : Int),
  w.cell? (t27.add (Int.toNat t25 * 1)) = some (.int .i64 t28) ∧
  Calls Try.prog 12 ⟨[(.pointer q), (.int .i64 t28)]⟩ w fun e w_ =>
    ∃ (t31_0 : Int) (t31_1 : Int),
    e = .returned (.tuple ⟨[(.int .i64 t31_0), (.int .i64 t31_1)]⟩) ∧
    B1 ((IntKind.i64.wrap (t25 + 1)), ()) w_

def S9_k6 (q : Option Addr) (first : Int) (t38_a : Option Addr) (t38_l : Nat) (t38_c : Nat) (t39 : Int) (t40 : Int) (w : World) (R : Value → World → Prop) (B1 : (Int) × Unit → World → Prop) : Prop :=
  ∃ (t42 : Addr),
  t38_a = some t42 ∧
  0 ≤ (t40 : Int) ∧
  (t40 : Int) < ((t38_l : Nat) : Int) ∧
  ∃ (t43 : Int),
  w.cell? (t42.add (Int.toNat t40 * 1)) = some (.int .i64 t43) ∧
  Calls Try.prog 12 ⟨[(.pointer q), (.int .i64 t43)]⟩ w fun e w_ =>
    ∃ (t46_0 : Int) (t46_1 : Int),
    e = .returned (.tuple ⟨[(.int .i64 t46_0), (.int .i64 t46_1)]⟩) ∧
    B1 ((IntKind.i64.wrap (t40 + 1)), ()) w_

def S9_k10 (q : Option Addr) (first : Int) (t48_a : Option Addr) (t48_l : Nat) (t48_c : Nat) (t49 : Int) (t50 : Int) (t65 : Bool) (w : World) (R : Value → World → Prop) (B1 : (Int) × Unit → World → Prop) : Prop :=
  cond t65 (
    R (.bool false) w
  ) (
    B1 ((IntKind.i64.wrap (t50 + 1)), ()) w
  )

def S9_k9 (q : Option Addr) (first : Int) (t48_a : Option Addr) (t48_l : Nat) (t48_c : Nat) (t49 : Int) (t50 : Int) (w : World) (R : Value → World → Prop) (B1 : (Int) × Unit → World → Prop) : Prop :=
  ∃ (t52 : Addr),
  t48_a = some t52 ∧
  0 ≤ (t50 : Int) ∧
  (t50 : Int) < ((t48_l : Nat) : Int) ∧
  ∃ (t53 : Int),
  w.cell? (t52.add (Int.toNat t50 * 1)) = some (.int .i64 t53) ∧
  Calls Try.prog 13 ⟨[(.pointer q)]⟩ w fun e w_ =>
    ∃ (t56_0 : Int) (t56_1 : Bool),
    e = .returned (.tuple ⟨[(.int .i64 t56_0), (.bool t56_1)]⟩) ∧
    cond (!decide ((t56_0 : Int) = t53)) (
      S9_k10 q first t48_a t48_l t48_c t49 t50 true w_ R B1
    ) (
      S9_k10 q first t48_a t48_l t48_c t49 t50 (!t56_1) w_ R B1
    )

def S9_L8 (q : Option Addr) (first : Int) (t48_a : Option Addr) (t48_l : Nat) (t48_c : Nat) (t49 : Int) (t50 : Int) (w : World) (R : Value → World → Prop) (B1 : (Int) × Unit → World → Prop) : Prop :=
  cond (decide ((t50 : Int) < t49)) (
    S9_k9 q first t48_a t48_l t48_c t49 t50 w R B1
  ) (
    R (.bool (decide ((first : Int) = 1))) w
  )

def S9_k7 (q : Option Addr) (first : Int) (w : World) (R : Value → World → Prop) : Prop :=
  ∃ (I : (Int) × Unit → World → Prop) (μ : (Int) × Unit → World → Nat),
  I (0, ()) (w.alloc (.cells ⟨[(.int .i64 2), (.int .i64 4), (.int .i64 3), (.int .i64 5), (.int .i64 0)]⟩ 3)) ∧
  ∀ (J : Env) (s : (Int) × Unit) (w' : World), I s w' →
    S9_L8 q first (some ⟨w.heap.size, 0, none⟩) 5 5 ((5 : Nat) : Int) s.1 w' R (fun s' w'' => I s' w'' ∧ μ s' w'' < μ s w')

def S9_L5 (q : Option Addr) (first : Int) (t38_a : Option Addr) (t38_l : Nat) (t38_c : Nat) (t39 : Int) (t40 : Int) (w : World) (R : Value → World → Prop) (B1 : (Int) × Unit → World → Prop) : Prop :=
  cond (decide ((t40 : Int) < t39)) (
    S9_k6 q first t38_a t38_l t38_c t39 t40 w R B1
  ) (
    S9_k7 q first w R
  )

def S9_k4 (q : Option Addr) (w : World) (R : Value → World → Prop) : Prop :=
  Calls Try.prog 13 ⟨[(.pointer q)]⟩ w fun e w_ =>
    ∃ (t35_0 : Int) (t35_1 : Bool),
    e = .returned (.tuple ⟨[(.int .i64 t35_0), (.bool t35_1)]⟩) ∧
    ∃ (I : (Int) × Unit → World → Prop) (μ : (Int) × Unit → World → Nat),
    I (0, ()) (w_.alloc (.cells ⟨[(.int .i64 4), (.int .i64 5), (.int .i64 5), (.int .i64 5), (.int .i64 5), (.int .i64 5)]⟩ 3)) ∧
    ∀ (J : Env) (s : (Int) × Unit) (w' : World), I s w' →
      S9_L5 q t35_0 (some ⟨w_.heap.size, 0, none⟩) 6 6 ((6 : Nat) : Int) s.1 w' R (fun s' w'' => I s' w'' ∧ μ s' w'' < μ s w')

def S9_L2 (q : Option Addr) (t23_a : Option Addr) (t23_l : Nat) (t23_c : Nat) (t24 : Int) (t25 : Int) (w : World) (R : Value → World → Prop) (B1 : (Int) × Unit → World → Prop) : Prop :=
  cond (decide ((t25 : Int) < t24)) (
    S9_k3 q t23_a t23_l t23_c t24 t25 w R B1
  ) (
    S9_k4 q w R
  )

def S9_k1 (q : Option Addr) (w : World) (R : Value → World → Prop) : Prop :=
  ∃ (I : (Int) × Unit → World → Prop) (μ : (Int) × Unit → World → Nat),
  I (0, ()) (w.alloc (.cells ⟨[(.int .i64 0), (.int .i64 5), (.int .i64 5)]⟩ 3)) ∧
  ∀ (J : Env) (s : (Int) × Unit) (w' : World), I s w' →
    S9_L2 q (some ⟨w.heap.size, 0, none⟩) 3 3 ((3 : Nat) : Int) s.1 w' R (fun s' w'' => I s' w'' ∧ μ s' w'' < μ s w')

def S9_k0 (q : Option Addr) (t22 : Bool) (w : World) (R : Value → World → Prop) : Prop :=
  cond t22 (
    R (.bool false) w
  ) (
    S9_k1 q w R
  )

def S9 (w : World) (R : Value → World → Prop) : Prop :=
  Calls Try.prog 10 ⟨[(.int .i64 1)]⟩ w fun e w_ =>
    ∃ (t14_0 : Option Addr) (t14_1 : Int),
    e = .returned (.tuple ⟨[(.pointer t14_0), (.int .i64 t14_1)]⟩) ∧
    cond (Option.isNone t14_0) (
      S9_k0 t14_0 true w_ R
    ) (
      S9_k0 t14_0 (!decide ((t14_1 : Int) = 0)) w_ R
    )

theorem S9_eq (w : World) (R : Value → World → Prop) : Eng.R Try.prog ⟨cal, S9_nx⟩ 69 S9_ann [] (Try.f9.body.getD .skip) (bodyQ Try.prog #[.tmp 0] R) (argE []) w = S9  w R := by kernel_rfl
/-- A call of 'carfax/carfaxlaw12.shown', by its condition. -/
theorem S9_calls {w : World} {R : Value → World → Prop} (hS : S9  w R) : Ret Try.prog 9 [] w R :=
  R_calls (C := ⟨cal, S9_nx⟩) cal_ok follows Try.func9 (c := Try.f9.body.getD .skip) (res := #[.tmp 0]) (n := 69) (by kernel_rfl) (by kernel_rfl) (by kernel_rfl) (by kernel_rfl) ((S9_eq  w R).mpr hS)

def S10_ann (p : List Nat) : Option LA :=
  none

def S10_nx (t : Nat) : Option (TypeId × TypeId) := none

def S10_k1 (step : Int) (w : World) (R : Value → World → Prop) : Prop :=
  R (.tuple ⟨[(.pointer (some ⟨w.heap.size, 0, none⟩)), (.int .i64 0)]⟩) (w.alloc (.cells ⟨[(.slice none 0 0), (.int .i64 0), (.int .i64 step)]⟩ 52))

def S10_k0 (step : Int) (t9 : Bool) (w : World) (R : Value → World → Prop) : Prop :=
  cond t9 (
    R (.tuple ⟨[(.pointer none), (.int .i64 1)]⟩) w
  ) (
    S10_k1 step w R
  )

def S10 (step : Int) (w : World) (R : Value → World → Prop) : Prop :=
  cond (decide ((step : Int) < 0)) (
    S10_k0 step true w R
  ) (
    S10_k0 step (decide ((1000 : Int) < step)) w R
  )

theorem S10_eq (step : Int) (w : World) (R : Value → World → Prop) : Eng.R Try.prog ⟨cal, S10_nx⟩ 13 S10_ann [] (Try.f10.body.getD .skip) (bodyQ Try.prog #[.tmp 2, .tmp 3] R) (argE [(.int .i64 step)]) w = S10 step w R := by kernel_rfl
/-- A call of 'carfax/aging.New', by its condition. -/
theorem S10_calls {step : Int} {w : World} {R : Value → World → Prop} (hS : S10 step w R) : Ret Try.prog 10 [(.int .i64 step)] w R :=
  R_calls (C := ⟨cal, S10_nx⟩) cal_ok follows Try.func10 (c := Try.f10.body.getD .skip) (res := #[.tmp 2, .tmp 3]) (n := 13) (by kernel_rfl) (by kernel_rfl) (by kernel_rfl) (by kernel_rfl) ((S10_eq step w R).mpr hS)

def S11_ann (p : List Nat) : Option LA :=
  none

def S11_nx (t : Nat) : Option (TypeId × TypeId) := none

def S11 (l_a : Option Addr) (l_l : Nat) (l_c : Nat) (w : World) (R : Value → World → Prop) : Prop :=
  0 ≤ ((if 300 < ((l_l : Nat) : Int) then 300 else ((l_l : Nat) : Int)) : Int) ∧
  ((if 300 < ((l_l : Nat) : Int) then 300 else ((l_l : Nat) : Int)) : Int) ≤ ((l_c : Nat) : Int) ∧
  R (.slice (slAddr l_a l_c 0 2) ((Int.toNat (if 300 < ((l_l : Nat) : Int) then 300 else ((l_l : Nat) : Int))) - 0) (l_c - 0)) w

theorem S11_eq (l_a : Option Addr) (l_l : Nat) (l_c : Nat) (w : World) (R : Value → World → Prop) : Eng.R Try.prog ⟨cal, S11_nx⟩ 8 S11_ann [] (Try.f11.body.getD .skip) (bodyQ Try.prog #[.tmp 2] R) (argE [(.slice l_a l_l l_c)]) w = S11 l_a l_l l_c w R := by kernel_rfl
/-- A call of 'carfax/carfaxlaw12.few', by its condition. -/
theorem S11_calls {l_a : Option Addr} {l_l : Nat} {l_c : Nat} {w : World} {R : Value → World → Prop} (hS : S11 l_a l_l l_c w R) : Ret Try.prog 11 [(.slice l_a l_l l_c)] w R :=
  R_calls (C := ⟨cal, S11_nx⟩) cal_ok follows Try.func11 (c := Try.f11.body.getD .skip) (res := #[.tmp 2]) (n := 8) (by kernel_rfl) (by kernel_rfl) (by kernel_rfl) (by kernel_rfl) ((S11_eq l_a l_l l_c w R).mpr hS)

def S12_ann (p : List Nat) : Option LA :=
  none

def S12_nx (t : Nat) : Option (TypeId × TypeId) := none

def S12_k1 (q : Option Addr) (prio : Int) (w : World) (R : Value → World → Prop) : Prop :=
  ∃ (t25 : Addr),
  q = some t25 ∧
  ∃ (t27 : Int),
  w.cell? (t25.add 1) = some (.int .i64 t27) ∧
  ∃ (t29 : Addr),
  q = some t29 ∧
  ∃ (t31 : Int),
  w.cell? (t29.add 1) = some (.int .i64 t31) ∧
  ∃ (t33 : Addr),
  q = some t33 ∧
  (∃ u, w.cell? (t33.add 1) = some u) ∧
  w.frozen? (t33.add 1) = false ∧
  ∃ (t37 : Addr),
  q = some t37 ∧
  ∃ (t39_a : Option Addr) (t39_l : Nat) (t39_c : Nat),
  (w.setCell (t33.add 1) (.int .i64 (IntKind.i64.wrap (t31 + 1)))).cell? t37 = some (.slice t39_a t39_l t39_c) ∧
  ∃ (t44_a : Option Addr) (t44_l : Nat) (t44_c : Nat) (w_ : World),
  (Builtin.append_ #[37, 37] 37 ⟨[(.slice t39_a t39_l t39_c), (.slice (some ⟨(w.setCell (t33.add 1) (.int .i64 (IntKind.i64.wrap (t31 + 1)))).heap.size, 0, none⟩) 1 1)]⟩).run Try.prog ((w.setCell (t33.add 1) (.int .i64 (IntKind.i64.wrap (t31 + 1)))).alloc (.cells ⟨[(.int .i64 t27), (.int .i64 prio), (.int .i64 0)]⟩ 40)) = .ok (.slice t44_a t44_l t44_c) w_ ∧
  ∃ (t45 : Addr),
  q = some t45 ∧
  (∃ u, w_.cell? t45 = some u) ∧
  w_.frozen? t45 = false ∧
  R (.tuple ⟨[(.int .i64 t27), (.int .i64 0)]⟩) (w_.setCell t45 (.slice t44_a t44_l t44_c))

def S12_k0 (q : Option Addr) (prio : Int) (t10 : Bool) (w : World) (R : Value → World → Prop) : Prop :=
  cond t10 (
    R (.tuple ⟨[(.int .i64 0), (.int .i64 1)]⟩) w
  ) (
    ∃ (t19 : Addr),
    q = some t19 ∧
    ∃ (t21_a : Option Addr) (t21_l : Nat) (t21_c : Nat),
    w.cell? t19 = some (.slice t21_a t21_l t21_c) ∧
    cond (decide ((64 : Int) ≤ ((t21_l : Nat) : Int))) (
      R (.tuple ⟨[(.int .i64 0), (.int .i64 4)]⟩) w
    ) (
      S12_k1 q prio w R
    )
  )

def S12 (q : Option Addr) (prio : Int) (w : World) (R : Value → World → Prop) : Prop :=
  cond (Option.isNone q) (
    R (.tuple ⟨[(.int .i64 0), (.int .i64 2)]⟩) w
  ) (
    cond (decide ((prio : Int) < 0)) (
      S12_k0 q prio true w R
    ) (
      S12_k0 q prio (decide ((5 : Int) < prio)) w R
    )
  )

theorem S12_eq (q : Option Addr) (prio : Int) (w : World) (R : Value → World → Prop) : Eng.R Try.prog ⟨cal, S12_nx⟩ 48 S12_ann [] (Try.f12.body.getD .skip) (bodyQ Try.prog #[.tmp 4, .tmp 5] R) (argE [(.pointer q), (.int .i64 prio)]) w = S12 q prio w R := by kernel_rfl
/-- A call of '(*carfax/aging.Queue).Add', by its condition. -/
theorem S12_calls {q : Option Addr} {prio : Int} {w : World} {R : Value → World → Prop} (hS : S12 q prio w R) : Ret Try.prog 12 [(.pointer q), (.int .i64 prio)] w R :=
  R_calls (C := ⟨cal, S12_nx⟩) cal_ok follows Try.func12 (c := Try.f12.body.getD .skip) (res := #[.tmp 4, .tmp 5]) (n := 48) (by kernel_rfl) (by kernel_rfl) (by kernel_rfl) (by kernel_rfl) ((S12_eq q prio w R).mpr hS)

def S13_ann (p : List Nat) : Option LA := match p with
  | [0, 1, 0, 1, 1, 1, 1] => some ⟨[0, 4, 5, 19], [(20, .one (.int .i64))]⟩
  | _ => none

def S13_nx (t : Nat) : Option (TypeId × TypeId) := none

def S13_k2 (q : Option Addr) (at_ : Int) (id : Int) (t19 : Int) (t20 : Int) (w : World) (R : Value → World → Prop) (B1 : (Int) × Unit → World → Prop) : Prop :=
  ∃ (t24 : Addr),
  q = some t24 ∧
  ∃ (t26_a : Option Addr) (t26_l : Nat) (t26_c : Nat),
  w.cell? t24 = some (.slice t26_a t26_l t26_c) ∧
  ∃ (t28 : Addr),
  t26_a = some t28 ∧
  0 ≤ (t20 : Int) ∧
  (t20 : Int) < ((t26_l : Nat) : Int) ∧
  ∃ (t30 : Int),
  w.cell? ((t28.add (Int.toNat t20 * 3)).add 2) = some (.int .i64 t30) ∧
  ∃ (t32 : Addr),
  t26_a = some t32 ∧
  0 ≤ (t20 : Int) ∧
  (t20 : Int) < ((t26_l : Nat) : Int) ∧
  (∃ u, w.cell? ((t32.add (Int.toNat t20 * 3)).add 2) = some u) ∧
  w.frozen? ((t32.add (Int.toNat t20 * 3)).add 2) = false ∧
  B1 ((IntKind.i64.wrap (t20 + 1)), ()) (w.setCell ((t32.add (Int.toNat t20 * 3)).add 2) (.int .i64 (IntKind.i64.wrap (t30 + 1))))

def S13_k3 (q : Option Addr) (at_ : Int) (id : Int) (w : World) (R : Value → World → Prop) : Prop :=
  ∃ (t37 : Addr),
  q = some t37 ∧
  ∃ (t39_a : Option Addr) (t39_l : Nat) (t39_c : Nat),
  w.cell? t37 = some (.slice t39_a t39_l t39_c) ∧
  Calls Try.prog 24 ⟨[(.slice t39_a t39_l t39_c), (.int .i64 at_), (.int .i64 (IntKind.i64.wrap (at_ + 1)))]⟩ w fun e w_ =>
    ∃ (t43_a : Option Addr) (t43_l : Nat) (t43_c : Nat),
    e = .returned (.slice t43_a t43_l t43_c) ∧
    ∃ (t44 : Addr),
    q = some t44 ∧
    (∃ u, w_.cell? t44 = some u) ∧
    w_.frozen? t44 = false ∧
    R (.tuple ⟨[(.int .i64 id), (.bool true)]⟩) (w_.setCell t44 (.slice t43_a t43_l t43_c))

def S13_L1 (q : Option Addr) (at_ : Int) (id : Int) (t19 : Int) (t20 : Int) (w : World) (R : Value → World → Prop) (B1 : (Int) × Unit → World → Prop) : Prop :=
  cond (decide ((t20 : Int) < t19)) (
    S13_k2 q at_ id t19 t20 w R B1
  ) (
    S13_k3 q at_ id w R
  )

def S13_k0 (q : Option Addr) (at_ : Int) (w : World) (R : Value → World → Prop) : Prop :=
  ∃ (t12 : Addr),
  q = some t12 ∧
  ∃ (t14_a : Option Addr) (t14_l : Nat) (t14_c : Nat),
  w.cell? t12 = some (.slice t14_a t14_l t14_c) ∧
  ∃ (t16 : Addr),
  t14_a = some t16 ∧
  0 ≤ (at_ : Int) ∧
  (at_ : Int) < ((t14_l : Nat) : Int) ∧
  ∃ (t18 : Int),
  w.cell? (t16.add (Int.toNat at_ * 3)) = some (.int .i64 t18) ∧
  ∃ (I : (Int) × Unit → World → Prop) (μ : (Int) × Unit → World → Nat),
  I (0, ()) w ∧
  ∀ (J : Env) (s : (Int) × Unit) (w' : World), I s w' →
    S13_L1 q at_ t18 at_ s.1 w' R (fun s' w'' => I s' w'' ∧ μ s' w'' < μ s w')

def S13 (q : Option Addr) (w : World) (R : Value → World → Prop) : Prop :=
  Calls Try.prog 23 ⟨[(.pointer q)]⟩ w fun e w_ =>
    ∃ (t8 : Int),
    e = .returned (.int .i64 t8) ∧
    cond (decide ((t8 : Int) < 0)) (
      R (.tuple ⟨[(.int .i64 0), (.bool false)]⟩) w_
    ) (
      S13_k0 q t8 w_ R
    )

theorem S13_eq (q : Option Addr) (w : World) (R : Value → World → Prop) : Eng.R Try.prog ⟨cal, S13_nx⟩ 47 S13_ann [] (Try.f13.body.getD .skip) (bodyQ Try.prog #[.tmp 2, .tmp 3] R) (argE [(.pointer q)]) w = S13 q w R := by kernel_rfl
/-- A call of '(*carfax/aging.Queue).Take', by its condition. -/
theorem S13_calls {q : Option Addr} {w : World} {R : Value → World → Prop} (hS : S13 q w R) : Ret Try.prog 13 [(.pointer q)] w R :=
  R_calls (C := ⟨cal, S13_nx⟩) cal_ok follows Try.func13 (c := Try.f13.body.getD .skip) (res := #[.tmp 2, .tmp 3]) (n := 47) (by kernel_rfl) (by kernel_rfl) (by kernel_rfl) (by kernel_rfl) ((S13_eq q w R).mpr hS)

def S14_ann (p : List Nat) : Option LA :=
  none

def S14_nx (t : Nat) : Option (TypeId × TypeId) := none

def S14_k1 (q : Option Addr) (at_ : Int) (w : World) (R : Value → World → Prop) : Prop :=
  ∃ (t18 : Addr),
  q = some t18 ∧
  ∃ (t20_a : Option Addr) (t20_l : Nat) (t20_c : Nat),
  w.cell? t18 = some (.slice t20_a t20_l t20_c) ∧
  Calls Try.prog 24 ⟨[(.slice t20_a t20_l t20_c), (.int .i64 at_), (.int .i64 (IntKind.i64.wrap (at_ + 1)))]⟩ w fun e w_ =>
    ∃ (t24_a : Option Addr) (t24_l : Nat) (t24_c : Nat),
    e = .returned (.slice t24_a t24_l t24_c) ∧
    ∃ (t25 : Addr),
    q = some t25 ∧
    (∃ u, w_.cell? t25 = some u) ∧
    w_.frozen? t25 = false ∧
    R (.bool true) (w_.setCell t25 (.slice t24_a t24_l t24_c))

def S14_k0 (q : Option Addr) (id : Addr) (w : World) (R : Value → World → Prop) : Prop :=
  ∃ (t9 : Addr),
  q = some t9 ∧
  ∃ (t11_a : Option Addr) (t11_l : Nat) (t11_c : Nat),
  w.cell? t9 = some (.slice t11_a t11_l t11_c) ∧
  Calls Try.prog 25 ⟨[(.slice t11_a t11_l t11_c), (.func (.func 26) ⟨[]⟩ ⟨[(.pointer (some id))]⟩)]⟩ w fun e w_ =>
    ∃ (t13 : Int),
    e = .returned (.int .i64 t13) ∧
    cond (decide ((t13 : Int) < 0)) (
      R (.bool false) w_
    ) (
      S14_k1 q t13 w_ R
    )

def S14 (q : Option Addr) (id : Int) (w : World) (R : Value → World → Prop) : Prop :=
  cond (Option.isNone q) (
    R (.bool false) (w.alloc (.cells ⟨[(.int .i64 id)]⟩ 3))
  ) (
    S14_k0 q ⟨w.heap.size, 0, none⟩ (w.alloc (.cells ⟨[(.int .i64 id)]⟩ 3)) R
  )

theorem S14_eq (q : Option Addr) (id : Int) (w : World) (R : Value → World → Prop) : Eng.R Try.prog ⟨cal, S14_nx⟩ 27 S14_ann [] (Try.f14.body.getD .skip) (bodyQ Try.prog #[.tmp 4] R) (argE [(.pointer q), (.int .i64 id)]) w = S14 q id w R := by kernel_rfl
/-- A call of '(*carfax/aging.Queue).Drop', by its condition. -/
theorem S14_calls {q : Option Addr} {id : Int} {w : World} {R : Value → World → Prop} (hS : S14 q id w R) : Ret Try.prog 14 [(.pointer q), (.int .i64 id)] w R :=
  R_calls (C := ⟨cal, S14_nx⟩) cal_ok follows Try.func14 (c := Try.f14.body.getD .skip) (res := #[.tmp 4]) (n := 27) (by kernel_rfl) (by kernel_rfl) (by kernel_rfl) (by kernel_rfl) ((S14_eq q id w R).mpr hS)

def S15_ann (p : List Nat) : Option LA :=
  none

def S15_nx (t : Nat) : Option (TypeId × TypeId) := none

def S15_k0 (q : Option Addr) (w : World) (R : Value → World → Prop) : Prop :=
  ∃ (t6 : Addr),
  q = some t6 ∧
  ∃ (t8_a : Option Addr) (t8_l : Nat) (t8_c : Nat),
  w.cell? t6 = some (.slice t8_a t8_l t8_c) ∧
  Calls Try.prog 27 ⟨[(.slice t8_a t8_l t8_c)]⟩ w fun e w_ =>
    ∃ (t9_a : Option Addr) (t9_l : Nat) (t9_c : Nat),
    e = .returned (.slice t9_a t9_l t9_c) ∧
    R (.slice t9_a t9_l t9_c) w_

def S15 (q : Option Addr) (w : World) (R : Value → World → Prop) : Prop :=
  cond (Option.isNone q) (
    R (.slice none 0 0) w
  ) (
    S15_k0 q w R
  )

theorem S15_eq (q : Option Addr) (w : World) (R : Value → World → Prop) : Eng.R Try.prog ⟨cal, S15_nx⟩ 10 S15_ann [] (Try.f15.body.getD .skip) (bodyQ Try.prog #[.tmp 2] R) (argE [(.pointer q)]) w = S15 q w R := by kernel_rfl
/-- A call of '(*carfax/aging.Queue).All', by its condition. -/
theorem S15_calls {q : Option Addr} {w : World} {R : Value → World → Prop} (hS : S15 q w R) : Ret Try.prog 15 [(.pointer q)] w R :=
  R_calls (C := ⟨cal, S15_nx⟩) cal_ok follows Try.func15 (c := Try.f15.body.getD .skip) (res := #[.tmp 2]) (n := 10) (by kernel_rfl) (by kernel_rfl) (by kernel_rfl) (by kernel_rfl) ((S15_eq q w R).mpr hS)

def S16_ann (p : List Nat) : Option LA :=
  none

def S16_nx (t : Nat) : Option (TypeId × TypeId) := none

def S16_k0 (q : Option Addr) (w : World) (R : Value → World → Prop) : Prop :=
  ∃ (t6 : Addr),
  q = some t6 ∧
  ∃ (t8_a : Option Addr) (t8_l : Nat) (t8_c : Nat),
  w.cell? t6 = some (.slice t8_a t8_l t8_c) ∧
  R (.int .i64 ((t8_l : Nat) : Int)) w

def S16 (q : Option Addr) (w : World) (R : Value → World → Prop) : Prop :=
  cond (Option.isNone q) (
    R (.int .i64 0) w
  ) (
    S16_k0 q w R
  )

theorem S16_eq (q : Option Addr) (w : World) (R : Value → World → Prop) : Eng.R Try.prog ⟨cal, S16_nx⟩ 10 S16_ann [] (Try.f16.body.getD .skip) (bodyQ Try.prog #[.tmp 2] R) (argE [(.pointer q)]) w = S16 q w R := by kernel_rfl
/-- A call of '(*carfax/aging.Queue).Len', by its condition. -/
theorem S16_calls {q : Option Addr} {w : World} {R : Value → World → Prop} (hS : S16 q w R) : Ret Try.prog 16 [(.pointer q)] w R :=
  R_calls (C := ⟨cal, S16_nx⟩) cal_ok follows Try.func16 (c := Try.f16.body.getD .skip) (res := #[.tmp 2]) (n := 10) (by kernel_rfl) (by kernel_rfl) (by kernel_rfl) (by kernel_rfl) ((S16_eq q w R).mpr hS)

def S17_ann (p : List Nat) : Option LA := match p with
  | [0, 1, 0, 1, 1] => some ⟨[0, 1], [(5, .one (.int .i64))]⟩
  | _ => none

def S17_nx (t : Nat) : Option (TypeId × TypeId) := none

def S17_k3 (a_a : Option Addr) (a_l : Nat) (a_c : Nat) (b_a : Option Addr) (b_l : Nat) (b_c : Nat) (i : Int) (t25 : Bool) (w : World) (R : Value → World → Prop) (B1 : (Int) × Unit → World → Prop) : Prop :=
  cond t25 (
    R (.bool false) w
  ) (
    B1 ((IntKind.i64.wrap (i + 1)), ()) w
  )

def S17_k2 (a_a : Option Addr) (a_l : Nat) (a_c : Nat) (b_a : Option Addr) (b_l : Nat) (b_c : Nat) (i : Int) (w : World) (R : Value → World → Prop) (B1 : (Int) × Unit → World → Prop) : Prop :=
  ∃ (t19 : Addr),
  a_a = some t19 ∧
  0 ≤ (i : Int) ∧
  (i : Int) < ((a_l : Nat) : Int) ∧
  ∃ (t20_0 : Int),
  w.drew.cell? (t19.add (Int.toNat i * 3)) = some (.int .i64 t20_0) ∧
  ∃ (t20_1 : Int),
  w.drew.cell? ((t19.add (Int.toNat i * 3)).add 1) = some (.int .i64 t20_1) ∧
  ∃ (t20_2 : Int),
  w.drew.cell? ((t19.add (Int.toNat i * 3)).add 2) = some (.int .i64 t20_2) ∧
  ∃ (t23 : Addr),
  b_a = some t23 ∧
  0 ≤ (i : Int) ∧
  (i : Int) < ((b_l : Nat) : Int) ∧
  ∃ (t24_0 : Int),
  w.drew.cell? (t23.add (Int.toNat i * 3)) = some (.int .i64 t24_0) ∧
  ∃ (t24_1 : Int),
  w.drew.cell? ((t23.add (Int.toNat i * 3)).add 1) = some (.int .i64 t24_1) ∧
  ∃ (t24_2 : Int),
  w.drew.cell? ((t23.add (Int.toNat i * 3)).add 2) = some (.int .i64 t24_2) ∧
  ∃ (t25 : Bool) (w_ : World),
  (do eqGuard .neq 40 (.tmp 20) (.tmp 24) (.agg ⟨[(.int .i64 t20_0), (.int .i64 t20_1), (.int .i64 t20_2)]⟩) (.agg ⟨[(.int .i64 t24_0), (.int .i64 t24_1), (.int .i64 t24_2)]⟩); binOp .neq 40 (.agg ⟨[(.int .i64 t20_0), (.int .i64 t20_1), (.int .i64 t20_2)]⟩) (.agg ⟨[(.int .i64 t24_0), (.int .i64 t24_1), (.int .i64 t24_2)]⟩)).run Try.prog w.drew = .ok (.bool t25) w_ ∧
  S17_k3 a_a a_l a_c b_a b_l b_c i t25 w_ R B1

def S17_L1 (a_a : Option Addr) (a_l : Nat) (a_c : Nat) (b_a : Option Addr) (b_l : Nat) (b_c : Nat) (i : Int) (w : World) (R : Value → World → Prop) (B1 : (Int) × Unit → World → Prop) : Prop :=
  cond (decide ((i : Int) < ((a_l : Nat) : Int))) (
    S17_k2 a_a a_l a_c b_a b_l b_c i w R B1
  ) (
    R (.bool true) w
  )

def S17_k0 (a_a : Option Addr) (a_l : Nat) (a_c : Nat) (b_a : Option Addr) (b_l : Nat) (b_c : Nat) (w : World) (R : Value → World → Prop) : Prop :=
  ∃ (I : (Int) × Unit → World → Prop) (μ : (Int) × Unit → World → Nat),
  I (0, ()) w ∧
  ∀ (J : Env) (s : (Int) × Unit) (w' : World), I s w' →
    S17_L1 a_a a_l a_c b_a b_l b_c s.1 w' R (fun s' w'' => I s' w'' ∧ μ s' w'' < μ s w')

def S17 (a_a : Option Addr) (a_l : Nat) (a_c : Nat) (b_a : Option Addr) (b_l : Nat) (b_c : Nat) (w : World) (R : Value → World → Prop) : Prop :=
  cond (!decide ((((a_l : Nat) : Int) : Int) = ((b_l : Nat) : Int))) (
    R (.bool false) w
  ) (
    S17_k0 a_a a_l a_c b_a b_l b_c w R
  )

theorem S17_eq (a_a : Option Addr) (a_l : Nat) (a_c : Nat) (b_a : Option Addr) (b_l : Nat) (b_c : Nat) (w : World) (R : Value → World → Prop) : Eng.R Try.prog ⟨cal, S17_nx⟩ 26 S17_ann [] (Try.f17.body.getD .skip) (bodyQ Try.prog #[.tmp 4] R) (argE [(.slice a_a a_l a_c), (.slice b_a b_l b_c)]) w = S17 a_a a_l a_c b_a b_l b_c w R := by kernel_rfl
/-- A call of 'carfax/carfaxref12.Same', by its condition. -/
theorem S17_calls {a_a : Option Addr} {a_l : Nat} {a_c : Nat} {b_a : Option Addr} {b_l : Nat} {b_c : Nat} {w : World} {R : Value → World → Prop} (hS : S17 a_a a_l a_c b_a b_l b_c w R) : Ret Try.prog 17 [(.slice a_a a_l a_c), (.slice b_a b_l b_c)] w R :=
  R_calls (C := ⟨cal, S17_nx⟩) cal_ok follows Try.func17 (c := Try.f17.body.getD .skip) (res := #[.tmp 4]) (n := 26) (by kernel_rfl) (by kernel_rfl) (by kernel_rfl) (by kernel_rfl) ((S17_eq a_a a_l a_c b_a b_l b_c w R).mpr hS)

def S18_ann (p : List Nat) : Option LA :=
  none

def S18_nx (t : Nat) : Option (TypeId × TypeId) := none

def S18_k3 (q : Option Addr) (w : World) (R : Value → World → Prop) : Prop :=
  ∃ (t34 : Addr),
  q = some t34 ∧
  ∃ (t36 : Int),
  w.cell? (t34.add 1) = some (.int .i64 t36) ∧
  ∃ (t38 : Addr),
  q = some t38 ∧
  (∃ u, w.cell? (t38.add 1) = some u) ∧
  w.frozen? (t38.add 1) = false ∧
  ∃ (t41 : Addr),
  q = some t41 ∧
  ∃ (t43 : Int),
  (w.setCell (t38.add 1) (.int .i64 (IntKind.i64.wrap (t36 + 1)))).cell? (t41.add 1) = some (.int .i64 t43) ∧
  R (.tuple ⟨[(.int .i64 (IntKind.i64.wrap (t43 - 1))), (.int .i64 0)]⟩) (w.setCell (t38.add 1) (.int .i64 (IntKind.i64.wrap (t36 + 1))))

def S18_k2 (q : Option Addr) (prio : Int) (w : World) (R : Value → World → Prop) : Prop :=
  ∃ (t20 : Addr),
  q = some t20 ∧
  ∃ (t24 : Addr),
  q = some t24 ∧
  ∃ (t26 : Int),
  w.drew.cell? (t24.add 1) = some (.int .i64 t26) ∧
  ∃ (t22_a : Option Addr) (t22_l : Nat) (t22_c : Nat),
  w.drew.cell? t20 = some (.slice t22_a t22_l t22_c) ∧
  ∃ (t30_a : Option Addr) (t30_l : Nat) (t30_c : Nat) (w_ : World),
  (Builtin.append_ #[37, 37] 37 ⟨[(.slice t22_a t22_l t22_c), (.slice (some ⟨w.drew.heap.size, 0, none⟩) 1 1)]⟩).run Try.prog (w.drew.alloc (.cells ⟨[(.int .i64 t26), (.int .i64 prio), (.int .i64 0)]⟩ 40)) = .ok (.slice t30_a t30_l t30_c) w_ ∧
  ∃ (t31 : Addr),
  q = some t31 ∧
  (∃ u, w_.cell? t31 = some u) ∧
  w_.frozen? t31 = false ∧
  S18_k3 q (w_.setCell t31 (.slice t30_a t30_l t30_c)) R

def S18_k1 (q : Option Addr) (prio : Int) (w : World) (R : Value → World → Prop) : Prop :=
  ∃ (t13 : Addr),
  q = some t13 ∧
  ∃ (t15_a : Option Addr) (t15_l : Nat) (t15_c : Nat),
  w.cell? t13 = some (.slice t15_a t15_l t15_c) ∧
  cond (decide ((64 : Int) ≤ ((t15_l : Nat) : Int))) (
    R (.tuple ⟨[(.int .i64 0), (.int .i64 4)]⟩) w
  ) (
    S18_k2 q prio w R
  )

def S18_k0 (q : Option Addr) (prio : Int) (t11 : Bool) (w : World) (R : Value → World → Prop) : Prop :=
  cond t11 (
    R (.tuple ⟨[(.int .i64 0), (.int .i64 1)]⟩) w
  ) (
    S18_k1 q prio w R
  )

def S18 (q : Option Addr) (prio : Int) (w : World) (R : Value → World → Prop) : Prop :=
  cond (decide ((prio : Int) < 0)) (
    S18_k0 q prio true w R
  ) (
    S18_k0 q prio (decide ((5 : Int) < prio)) w R
  )

theorem S18_eq (q : Option Addr) (prio : Int) (w : World) (R : Value → World → Prop) : Eng.R Try.prog ⟨cal, S18_nx⟩ 45 S18_ann [] (Try.f18.body.getD .skip) (bodyQ Try.prog #[.tmp 4, .tmp 5] R) (argE [(.pointer q), (.int .i64 prio)]) w = S18 q prio w R := by kernel_rfl
/-- A call of '(*carfax/carfaxref12.Queue).Add', by its condition. -/
theorem S18_calls {q : Option Addr} {prio : Int} {w : World} {R : Value → World → Prop} (hS : S18 q prio w R) : Ret Try.prog 18 [(.pointer q), (.int .i64 prio)] w R :=
  R_calls (C := ⟨cal, S18_nx⟩) cal_ok follows Try.func18 (c := Try.f18.body.getD .skip) (res := #[.tmp 4, .tmp 5]) (n := 45) (by kernel_rfl) (by kernel_rfl) (by kernel_rfl) (by kernel_rfl) ((S18_eq q prio w R).mpr hS)

def S19_ann (p : List Nat) : Option LA := match p with
  | [0, 1, 0, 1, 1, 1, 1] => some ⟨[0, 4, 6], [(7, .one (.int .i64))]⟩
  | _ => none

def S19_nx (t : Nat) : Option (TypeId × TypeId) := none

def S19_k2 (q : Option Addr) (id : Int) (i : Int) (k : Int) (w : World) (R : Value → World → Prop) (B1 : (Int) × Unit → World → Prop) : Prop :=
  ∃ (t23 : Addr),
  q = some t23 ∧
  ∃ (t25_a : Option Addr) (t25_l : Nat) (t25_c : Nat),
  w.cell? t23 = some (.slice t25_a t25_l t25_c) ∧
  ∃ (t27 : Addr),
  t25_a = some t27 ∧
  0 ≤ (k : Int) ∧
  (k : Int) < ((t25_l : Nat) : Int) ∧
  ∃ (t29 : Int),
  w.cell? ((t27.add (Int.toNat k * 3)).add 2) = some (.int .i64 t29) ∧
  ∃ (t31 : Addr),
  t25_a = some t31 ∧
  0 ≤ (k : Int) ∧
  (k : Int) < ((t25_l : Nat) : Int) ∧
  (∃ u, w.cell? ((t31.add (Int.toNat k * 3)).add 2) = some u) ∧
  w.frozen? ((t31.add (Int.toNat k * 3)).add 2) = false ∧
  B1 ((IntKind.i64.wrap (k + 1)), ()) (w.setCell ((t31.add (Int.toNat k * 3)).add 2) (.int .i64 (IntKind.i64.wrap (t29 + 1))))

def S19_L1 (q : Option Addr) (id : Int) (i : Int) (k : Int) (w : World) (R : Value → World → Prop) (B1 : (Int) × Unit → World → Prop) : Prop :=
  cond (decide ((k : Int) < i)) (
    S19_k2 q id i k w R B1
  ) (
    Calls Try.prog 29 ⟨[(.pointer q), (.int .i64 i)]⟩ w fun e w_ =>
      e = .returned (.tuple ⟨[]⟩) ∧
      R (.tuple ⟨[(.int .i64 id), (.bool true)]⟩) w_
  )

def S19_k0 (q : Option Addr) (id : Int) (w : World) (R : Value → World → Prop) : Prop :=
  Calls Try.prog 28 ⟨[(.pointer q)]⟩ w fun e w_ =>
    ∃ (t16 : Int),
    e = .returned (.int .i64 t16) ∧
    ∃ (I : (Int) × Unit → World → Prop) (μ : (Int) × Unit → World → Nat),
    I (0, ()) w_ ∧
    ∀ (J : Env) (s : (Int) × Unit) (w' : World), I s w' →
      S19_L1 q id t16 s.1 w' R (fun s' w'' => I s' w'' ∧ μ s' w'' < μ s w')

def S19 (q : Option Addr) (w : World) (R : Value → World → Prop) : Prop :=
  Calls Try.prog 22 ⟨[(.pointer q)]⟩ w fun e w_ =>
    ∃ (t10_0 : Int) (t10_1 : Bool),
    e = .returned (.tuple ⟨[(.int .i64 t10_0), (.bool t10_1)]⟩) ∧
    cond (!t10_1) (
      R (.tuple ⟨[(.int .i64 0), (.bool false)]⟩) w_
    ) (
      S19_k0 q t10_0 w_ R
    )

theorem S19_eq (q : Option Addr) (w : World) (R : Value → World → Prop) : Eng.R Try.prog ⟨cal, S19_nx⟩ 37 S19_ann [] (Try.f19.body.getD .skip) (bodyQ Try.prog #[.tmp 2, .tmp 3] R) (argE [(.pointer q)]) w = S19 q w R := by kernel_rfl
/-- A call of '(*carfax/carfaxref12.Queue).Take', by its condition. -/
theorem S19_calls {q : Option Addr} {w : World} {R : Value → World → Prop} (hS : S19 q w R) : Ret Try.prog 19 [(.pointer q)] w R :=
  R_calls (C := ⟨cal, S19_nx⟩) cal_ok follows Try.func19 (c := Try.f19.body.getD .skip) (res := #[.tmp 2, .tmp 3]) (n := 37) (by kernel_rfl) (by kernel_rfl) (by kernel_rfl) (by kernel_rfl) ((S19_eq q w R).mpr hS)

def S20_ann (p : List Nat) : Option LA := match p with
  | [0, 1, 0, 1] => some ⟨[0, 1], [(5, .one (.int .i64))]⟩
  | _ => none

def S20_nx (t : Nat) : Option (TypeId × TypeId) := none

def S20_k1 (q : Option Addr) (id : Int) (i : Int) (w : World) (R : Value → World → Prop) (B1 : (Int) × Unit → World → Prop) : Prop :=
  ∃ (t16 : Addr),
  q = some t16 ∧
  ∃ (t18_a : Option Addr) (t18_l : Nat) (t18_c : Nat),
  w.cell? t16 = some (.slice t18_a t18_l t18_c) ∧
  ∃ (t20 : Addr),
  t18_a = some t20 ∧
  0 ≤ (i : Int) ∧
  (i : Int) < ((t18_l : Nat) : Int) ∧
  ∃ (t22 : Int),
  w.cell? (t20.add (Int.toNat i * 3)) = some (.int .i64 t22) ∧
  cond (decide ((t22 : Int) = id)) (
    Calls Try.prog 29 ⟨[(.pointer q), (.int .i64 i)]⟩ w fun e w_ =>
      e = .returned (.tuple ⟨[]⟩) ∧
      R (.bool true) w_
  ) (
    B1 ((IntKind.i64.wrap (i + 1)), ()) w
  )

def S20_L0 (q : Option Addr) (id : Int) (i : Int) (w : World) (R : Value → World → Prop) (B1 : (Int) × Unit → World → Prop) : Prop :=
  ∃ (t8 : Addr),
  q = some t8 ∧
  ∃ (t10_a : Option Addr) (t10_l : Nat) (t10_c : Nat),
  w.cell? t8 = some (.slice t10_a t10_l t10_c) ∧
  cond (decide ((i : Int) < ((t10_l : Nat) : Int))) (
    S20_k1 q id i w R B1
  ) (
    R (.bool false) w
  )

def S20 (q : Option Addr) (id : Int) (w : World) (R : Value → World → Prop) : Prop :=
  ∃ (I : (Int) × Unit → World → Prop) (μ : (Int) × Unit → World → Nat),
  I (0, ()) w ∧
  ∀ (J : Env) (s : (Int) × Unit) (w' : World), I s w' →
    S20_L0 q id s.1 w' R (fun s' w'' => I s' w'' ∧ μ s' w'' < μ s w')

theorem S20_eq (q : Option Addr) (id : Int) (w : World) (R : Value → World → Prop) : Eng.R Try.prog ⟨cal, S20_nx⟩ 28 S20_ann [] (Try.f20.body.getD .skip) (bodyQ Try.prog #[.tmp 4] R) (argE [(.pointer q), (.int .i64 id)]) w = S20 q id w R := by kernel_rfl
/-- A call of '(*carfax/carfaxref12.Queue).Drop', by its condition. -/
theorem S20_calls {q : Option Addr} {id : Int} {w : World} {R : Value → World → Prop} (hS : S20 q id w R) : Ret Try.prog 20 [(.pointer q), (.int .i64 id)] w R :=
  R_calls (C := ⟨cal, S20_nx⟩) cal_ok follows Try.func20 (c := Try.f20.body.getD .skip) (res := #[.tmp 4]) (n := 28) (by kernel_rfl) (by kernel_rfl) (by kernel_rfl) (by kernel_rfl) ((S20_eq q id w R).mpr hS)

def S21_ann (p : List Nat) : Option LA :=
  none

def S21_nx (t : Nat) : Option (TypeId × TypeId) := none

def S21_k0 (q : Option Addr) (at_ : Int) (w : World) (R : Value → World → Prop) : Prop :=
  ∃ (t10 : Addr),
  q = some t10 ∧
  ∃ (t12_a : Option Addr) (t12_l : Nat) (t12_c : Nat),
  w.cell? t10 = some (.slice t12_a t12_l t12_c) ∧
  ∃ (t14 : Addr),
  t12_a = some t14 ∧
  0 ≤ (at_ : Int) ∧
  (at_ : Int) < ((t12_l : Nat) : Int) ∧
  ∃ (t16 : Int),
  w.cell? (t14.add (Int.toNat at_ * 3)) = some (.int .i64 t16) ∧
  R (.tuple ⟨[(.int .i64 t16), (.bool true)]⟩) w

def S21 (q : Option Addr) (w : World) (R : Value → World → Prop) : Prop :=
  Calls Try.prog 23 ⟨[(.pointer q)]⟩ w fun e w_ =>
    ∃ (t6 : Int),
    e = .returned (.int .i64 t6) ∧
    cond (decide ((t6 : Int) < 0)) (
      R (.tuple ⟨[(.int .i64 0), (.bool false)]⟩) w_
    ) (
      S21_k0 q t6 w_ R
    )

theorem S21_eq (q : Option Addr) (w : World) (R : Value → World → Prop) : Eng.R Try.prog ⟨cal, S21_nx⟩ 17 S21_ann [] (Try.f21.body.getD .skip) (bodyQ Try.prog #[.tmp 2, .tmp 3] R) (argE [(.pointer q)]) w = S21 q w R := by kernel_rfl
/-- A call of '(*carfax/aging.Queue).Next', by its condition. -/
theorem S21_calls {q : Option Addr} {w : World} {R : Value → World → Prop} (hS : S21 q w R) : Ret Try.prog 21 [(.pointer q)] w R :=
  R_calls (C := ⟨cal, S21_nx⟩) cal_ok follows Try.func21 (c := Try.f21.body.getD .skip) (res := #[.tmp 2, .tmp 3]) (n := 17) (by kernel_rfl) (by kernel_rfl) (by kernel_rfl) (by kernel_rfl) ((S21_eq q w R).mpr hS)

def S22_ann (p : List Nat) : Option LA :=
  none

def S22_nx (t : Nat) : Option (TypeId × TypeId) := none

def S22_k0 (q : Option Addr) (i : Int) (w : World) (R : Value → World → Prop) : Prop :=
  ∃ (t10 : Addr),
  q = some t10 ∧
  ∃ (t12_a : Option Addr) (t12_l : Nat) (t12_c : Nat),
  w.cell? t10 = some (.slice t12_a t12_l t12_c) ∧
  ∃ (t14 : Addr),
  t12_a = some t14 ∧
  0 ≤ (i : Int) ∧
  (i : Int) < ((t12_l : Nat) : Int) ∧
  ∃ (t16 : Int),
  w.cell? (t14.add (Int.toNat i * 3)) = some (.int .i64 t16) ∧
  R (.tuple ⟨[(.int .i64 t16), (.bool true)]⟩) w

def S22 (q : Option Addr) (w : World) (R : Value → World → Prop) : Prop :=
  Calls Try.prog 28 ⟨[(.pointer q)]⟩ w fun e w_ =>
    ∃ (t6 : Int),
    e = .returned (.int .i64 t6) ∧
    cond (decide ((t6 : Int) < 0)) (
      R (.tuple ⟨[(.int .i64 0), (.bool false)]⟩) w_
    ) (
      S22_k0 q t6 w_ R
    )

theorem S22_eq (q : Option Addr) (w : World) (R : Value → World → Prop) : Eng.R Try.prog ⟨cal, S22_nx⟩ 17 S22_ann [] (Try.f22.body.getD .skip) (bodyQ Try.prog #[.tmp 2, .tmp 3] R) (argE [(.pointer q)]) w = S22 q w R := by kernel_rfl
/-- A call of '(*carfax/carfaxref12.Queue).Next', by its condition. -/
theorem S22_calls {q : Option Addr} {w : World} {R : Value → World → Prop} (hS : S22 q w R) : Ret Try.prog 22 [(.pointer q)] w R :=
  R_calls (C := ⟨cal, S22_nx⟩) cal_ok follows Try.func22 (c := Try.f22.body.getD .skip) (res := #[.tmp 2, .tmp 3]) (n := 17) (by kernel_rfl) (by kernel_rfl) (by kernel_rfl) (by kernel_rfl) ((S22_eq q w R).mpr hS)

def S23_ann (p : List Nat) : Option LA := match p with
  | [0, 1, 0, 1, 1, 1, 1, 1] => some ⟨[0, 25, 26], [(5, .one (.int .i64)), (27, .one (.int .i64))]⟩
  | _ => none

def S23_nx (t : Nat) : Option (TypeId × TypeId) := none

def S23_k4 (q : Option Addr) (best : Int) (i : Int) (t25_a : Option Addr) (t25_l : Nat) (t25_c : Nat) (t26 : Int) (t27 : Int) (t42 : Bool) (w : World) (R : Value → World → Prop) (B1 : (Int) × (Int) × Unit → World → Prop) : Prop :=
  cond t42 (
    B1 (i, (IntKind.i64.wrap (t27 + 1)), ()) w
  ) (
    B1 (best, (IntKind.i64.wrap (t27 + 1)), ()) w
  )

def S23_k3 (q : Option Addr) (best : Int) (t25_a : Option Addr) (t25_l : Nat) (t25_c : Nat) (t26 : Int) (t27 : Int) (w : World) (R : Value → World → Prop) (B1 : (Int) × (Int) × Unit → World → Prop) : Prop :=
  ∃ (t30 : Addr),
  t25_a = some t30 ∧
  0 ≤ (t27 : Int) ∧
  (t27 : Int) < ((t25_l : Nat) : Int) ∧
  ∃ (t31_0 : Int),
  w.cell? (t30.add (Int.toNat t27 * 3)) = some (.int .i64 t31_0) ∧
  ∃ (t31_1 : Int),
  w.cell? ((t30.add (Int.toNat t27 * 3)).add 1) = some (.int .i64 t31_1) ∧
  ∃ (t31_2 : Int),
  w.cell? ((t30.add (Int.toNat t27 * 3)).add 2) = some (.int .i64 t31_2) ∧
  (∃ u, (w.alloc (.cells ⟨[(.int .i64 0), (.int .i64 0), (.int .i64 0)]⟩ 40)).cell? ⟨w.heap.size, 0, none⟩ = some u) ∧
  (w.alloc (.cells ⟨[(.int .i64 0), (.int .i64 0), (.int .i64 0)]⟩ 40)).frozen? ⟨w.heap.size, 0, none⟩ = false ∧
  (∃ u, ((w.alloc (.cells ⟨[(.int .i64 0), (.int .i64 0), (.int .i64 0)]⟩ 40)).setCell ⟨w.heap.size, 0, none⟩ (.int .i64 t31_0)).cell? ⟨w.heap.size, 1, none⟩ = some u) ∧
  ((w.alloc (.cells ⟨[(.int .i64 0), (.int .i64 0), (.int .i64 0)]⟩ 40)).setCell ⟨w.heap.size, 0, none⟩ (.int .i64 t31_0)).frozen? ⟨w.heap.size, 1, none⟩ = false ∧
  (∃ u, (((w.alloc (.cells ⟨[(.int .i64 0), (.int .i64 0), (.int .i64 0)]⟩ 40)).setCell ⟨w.heap.size, 0, none⟩ (.int .i64 t31_0)).setCell ⟨w.heap.size, 1, none⟩ (.int .i64 t31_1)).cell? ⟨w.heap.size, 2, none⟩ = some u) ∧
  (((w.alloc (.cells ⟨[(.int .i64 0), (.int .i64 0), (.int .i64 0)]⟩ 40)).setCell ⟨w.heap.size, 0, none⟩ (.int .i64 t31_0)).setCell ⟨w.heap.size, 1, none⟩ (.int .i64 t31_1)).frozen? ⟨w.heap.size, 2, none⟩ = false ∧
  ∃ (t35 : Addr),
  q = some t35 ∧
  ∃ (t37_a : Option Addr) (t37_l : Nat) (t37_c : Nat),
  ((((w.alloc (.cells ⟨[(.int .i64 0), (.int .i64 0), (.int .i64 0)]⟩ 40)).setCell ⟨w.heap.size, 0, none⟩ (.int .i64 t31_0)).setCell ⟨w.heap.size, 1, none⟩ (.int .i64 t31_1)).setCell ⟨w.heap.size, 2, none⟩ (.int .i64 t31_2)).drew.cell? t35 = some (.slice t37_a t37_l t37_c) ∧
  ∃ (t39 : Addr),
  t37_a = some t39 ∧
  0 ≤ (best : Int) ∧
  (best : Int) < ((t37_l : Nat) : Int) ∧
  ∃ (t33 : Int),
  ((((w.alloc (.cells ⟨[(.int .i64 0), (.int .i64 0), (.int .i64 0)]⟩ 40)).setCell ⟨w.heap.size, 0, none⟩ (.int .i64 t31_0)).setCell ⟨w.heap.size, 1, none⟩ (.int .i64 t31_1)).setCell ⟨w.heap.size, 2, none⟩ (.int .i64 t31_2)).drew.cell? ⟨w.heap.size, 1, none⟩ = some (.int .i64 t33) ∧
  ∃ (t41 : Int),
  ((((w.alloc (.cells ⟨[(.int .i64 0), (.int .i64 0), (.int .i64 0)]⟩ 40)).setCell ⟨w.heap.size, 0, none⟩ (.int .i64 t31_0)).setCell ⟨w.heap.size, 1, none⟩ (.int .i64 t31_1)).setCell ⟨w.heap.size, 2, none⟩ (.int .i64 t31_2)).drew.cell? ((t39.add (Int.toNat best * 3)).add 1) = some (.int .i64 t41) ∧
  S23_k4 q best t27 t25_a t25_l t25_c t26 t27 (decide ((t41 : Int) < t33)) ((((w.alloc (.cells ⟨[(.int .i64 0), (.int .i64 0), (.int .i64 0)]⟩ 40)).setCell ⟨w.heap.size, 0, none⟩ (.int .i64 t31_0)).setCell ⟨w.heap.size, 1, none⟩ (.int .i64 t31_1)).setCell ⟨w.heap.size, 2, none⟩ (.int .i64 t31_2)).drew R B1

def S23_L2 (q : Option Addr) (best : Int) (t25_a : Option Addr) (t25_l : Nat) (t25_c : Nat) (t26 : Int) (t27 : Int) (w : World) (R : Value → World → Prop) (B1 : (Int) × (Int) × Unit → World → Prop) : Prop :=
  cond (decide ((t27 : Int) < t26)) (
    S23_k3 q best t25_a t25_l t25_c t26 t27 w R B1
  ) (
    R (.int .i64 best) w
  )

def S23_k1 (q : Option Addr) (w : World) (R : Value → World → Prop) : Prop :=
  ∃ (t23 : Addr),
  q = some t23 ∧
  ∃ (t25_a : Option Addr) (t25_l : Nat) (t25_c : Nat),
  w.cell? t23 = some (.slice t25_a t25_l t25_c) ∧
  ∃ (I : (Int) × (Int) × Unit → World → Prop) (μ : (Int) × (Int) × Unit → World → Nat),
  I (0, 0, ()) w ∧
  ∀ (J : Env) (s : (Int) × (Int) × Unit) (w' : World), I s w' →
    S23_L2 q s.1 t25_a t25_l t25_c ((t25_l : Nat) : Int) s.2.1 w' R (fun s' w'' => I s' w'' ∧ μ s' w'' < μ s w')

def S23_k0 (q : Option Addr) (w : World) (R : Value → World → Prop) : Prop :=
  ∃ (t14 : Addr),
  q = some t14 ∧
  ∃ (t16_a : Option Addr) (t16_l : Nat) (t16_c : Nat),
  w.cell? t14 = some (.slice t16_a t16_l t16_c) ∧
  Calls Try.prog 25 ⟨[(.slice t16_a t16_l t16_c), (.func (.func 30) ⟨[(.pointer q)]⟩ ⟨[]⟩)]⟩ w fun e w_ =>
    ∃ (t18 : Int),
    e = .returned (.int .i64 t18) ∧
    cond (decide ((0 : Int) ≤ t18)) (
      R (.int .i64 t18) w_
    ) (
      S23_k1 q w_ R
    )

def S23 (q : Option Addr) (w : World) (R : Value → World → Prop) : Prop :=
  Calls Try.prog 16 ⟨[(.pointer q)]⟩ w fun e w_ =>
    ∃ (t9 : Int),
    e = .returned (.int .i64 t9) ∧
    cond (decide ((t9 : Int) = 0)) (
      R (.int .i64 (-1)) w_
    ) (
      S23_k0 q w_ R
    )

theorem S23_eq (q : Option Addr) (w : World) (R : Value → World → Prop) : Eng.R Try.prog ⟨cal, S23_nx⟩ 46 S23_ann [] (Try.f23.body.getD .skip) (bodyQ Try.prog #[.tmp 2] R) (argE [(.pointer q)]) w = S23 q w R := by kernel_rfl
/-- A call of '(*carfax/aging.Queue).place', by its condition. -/
theorem S23_calls {q : Option Addr} {w : World} {R : Value → World → Prop} (hS : S23 q w R) : Ret Try.prog 23 [(.pointer q)] w R :=
  R_calls (C := ⟨cal, S23_nx⟩) cal_ok follows Try.func23 (c := Try.f23.body.getD .skip) (res := #[.tmp 2]) (n := 46) (by kernel_rfl) (by kernel_rfl) (by kernel_rfl) (by kernel_rfl) ((S23_eq q w R).mpr hS)

def S24_ann (p : List Nat) : Option LA :=
  none

def S24_nx (t : Nat) : Option (TypeId × TypeId) := none

def S24_k1 (s_a : Option Addr) (s_l : Nat) (s_c : Nat) (oldlen : Int) (w : World) (R : Value → World → Prop) : Prop :=
  0 ≤ (oldlen : Int) ∧
  (oldlen : Int) ≤ ((s_c : Nat) : Int) ∧
  0 ≤ (((s_l : Nat) : Int) : Int) ∧
  (((s_l : Nat) : Int) : Int) ≤ (((Int.toNat oldlen) : Nat) : Int) ∧
  ∃ (w_ : World),
  (Builtin.clear_ #[37] 0 ⟨[(.slice (slAddr s_a s_c (Int.toNat ((s_l : Nat) : Int)) 3) ((Int.toNat oldlen) - (Int.toNat ((s_l : Nat) : Int))) (s_c - (Int.toNat ((s_l : Nat) : Int))))]⟩).run Try.prog w = .ok (.tuple ⟨[]⟩) w_ ∧
  R (.slice s_a s_l s_c) w_

def S24_k0 (s_a : Option Addr) (s_l : Nat) (s_c : Nat) (i : Int) (j : Int) (w : World) (R : Value → World → Prop) : Prop :=
  0 ≤ (i : Int) ∧
  (i : Int) ≤ ((s_c : Nat) : Int) ∧
  0 ≤ (j : Int) ∧
  (j : Int) ≤ ((s_l : Nat) : Int) ∧
  ∃ (t26_a : Option Addr) (t26_l : Nat) (t26_c : Nat) (w_ : World),
  (Builtin.append_ #[37, 37] 37 ⟨[(.slice (slAddr s_a s_c 0 3) ((Int.toNat i) - 0) (s_c - 0)), (.slice (slAddr s_a s_c (Int.toNat j) 3) (s_l - (Int.toNat j)) (s_c - (Int.toNat j)))]⟩).run Try.prog w.drew = .ok (.slice t26_a t26_l t26_c) w_ ∧
  S24_k1 t26_a t26_l t26_c ((s_l : Nat) : Int) w_ R

def S24 (s_a : Option Addr) (s_l : Nat) (s_c : Nat) (i : Int) (j : Int) (w : World) (R : Value → World → Prop) : Prop :=
  0 ≤ (((s_l : Nat) : Int) : Int) ∧
  (((s_l : Nat) : Int) : Int) ≤ ((s_c : Nat) : Int) ∧
  0 ≤ (j : Int) ∧
  (j : Int) ≤ (((Int.toNat ((s_l : Nat) : Int)) : Nat) : Int) ∧
  0 ≤ (i : Int) ∧
  (i : Int) ≤ (((Int.toNat j) : Nat) : Int) ∧
  cond (decide ((i : Int) = j)) (
    R (.slice s_a s_l s_c) w
  ) (
    S24_k0 s_a s_l s_c i j w R
  )

theorem S24_eq (s_a : Option Addr) (s_l : Nat) (s_c : Nat) (i : Int) (j : Int) (w : World) (R : Value → World → Prop) : Eng.R Try.prog ⟨cal, S24_nx⟩ 33 S24_ann [] (Try.f24.body.getD .skip) (bodyQ Try.prog #[.tmp 6] R) (argE [(.slice s_a s_l s_c), (.int .i64 i), (.int .i64 j)]) w = S24 s_a s_l s_c i j w R := by kernel_rfl
/-- A call of 'slices.Delete[[]carfax/api.Waiter,carfax/api.Waiter]', by its condition. -/
theorem S24_calls {s_a : Option Addr} {s_l : Nat} {s_c : Nat} {i : Int} {j : Int} {w : World} {R : Value → World → Prop} (hS : S24 s_a s_l s_c i j w R) : Ret Try.prog 24 [(.slice s_a s_l s_c), (.int .i64 i), (.int .i64 j)] w R :=
  R_calls (C := ⟨cal, S24_nx⟩) cal_ok follows Try.func24 (c := Try.f24.body.getD .skip) (res := #[.tmp 6]) (n := 33) (by kernel_rfl) (by kernel_rfl) (by kernel_rfl) (by kernel_rfl) ((S24_eq s_a s_l s_c i j w R).mpr hS)

def S26_ann (p : List Nat) : Option LA :=
  none

def S26_nx (t : Nat) : Option (TypeId × TypeId) := none

def S26 (w_0 : Int) (w_1 : Int) (w_2 : Int) (cap : Addr) (w : World) (R : Value → World → Prop) : Prop :=
  ∃ (t5 : Int),
  (w.alloc (.cells ⟨[(.int .i64 w_0), (.int .i64 w_1), (.int .i64 w_2)]⟩ 40)).cell? ⟨w.heap.size, 0, none⟩ = some (.int .i64 t5) ∧
  ∃ (t6 : Int),
  (w.alloc (.cells ⟨[(.int .i64 w_0), (.int .i64 w_1), (.int .i64 w_2)]⟩ 40)).cell? cap = some (.int .i64 t6) ∧
  R (.bool (decide ((t5 : Int) = t6))) (w.alloc (.cells ⟨[(.int .i64 w_0), (.int .i64 w_1), (.int .i64 w_2)]⟩ 40))

theorem S26_eq (w_0 : Int) (w_1 : Int) (w_2 : Int) (cap : Addr) (w : World) (R : Value → World → Prop) : Eng.R Try.prog ⟨cal, S26_nx⟩ 8 S26_ann [] (Try.f26.body.getD .skip) (bodyQ Try.prog #[.tmp 3] R) (argE [(.agg ⟨[(.int .i64 w_0), (.int .i64 w_1), (.int .i64 w_2)]⟩), (.pointer (some cap))]) w = S26 w_0 w_1 w_2 cap w R := by kernel_rfl
/-- A call of '(*carfax/aging.Queue).Drop$1', by its condition. -/
theorem S26_calls {w_0 : Int} {w_1 : Int} {w_2 : Int} {cap : Addr} {w : World} {R : Value → World → Prop} (hS : S26 w_0 w_1 w_2 cap w R) : Ret Try.prog 26 [(.agg ⟨[(.int .i64 w_0), (.int .i64 w_1), (.int .i64 w_2)]⟩), (.pointer (some cap))] w R :=
  R_calls (C := ⟨cal, S26_nx⟩) cal_ok follows Try.func26 (c := Try.f26.body.getD .skip) (res := #[.tmp 3]) (n := 8) (by kernel_rfl) (by kernel_rfl) (by kernel_rfl) (by kernel_rfl) ((S26_eq w_0 w_1 w_2 cap w R).mpr hS)

def S27_ann (p : List Nat) : Option LA :=
  none

def S27_nx (t : Nat) : Option (TypeId × TypeId) := none

def S27_k0 (s_a : Option Addr) (s_l : Nat) (s_c : Nat) (w : World) (R : Value → World → Prop) : Prop :=
  ∃ (t7_a : Option Addr) (t7_l : Nat) (t7_c : Nat) (w_ : World),
  (Builtin.append_ #[37, 37] 37 ⟨[(.slice (some ⟨w.heap.size, 0, none⟩) 0 0), (.slice s_a s_l s_c)]⟩).run Try.prog (w.alloc (.cells ⟨[]⟩ 40)) = .ok (.slice t7_a t7_l t7_c) w_ ∧
  R (.slice t7_a t7_l t7_c) w_

def S27 (s_a : Option Addr) (s_l : Nat) (s_c : Nat) (w : World) (R : Value → World → Prop) : Prop :=
  cond (Option.isNone s_a) (
    R (.slice none 0 0) w
  ) (
    S27_k0 s_a s_l s_c w R
  )

theorem S27_eq (s_a : Option Addr) (s_l : Nat) (s_c : Nat) (w : World) (R : Value → World → Prop) : Eng.R Try.prog ⟨cal, S27_nx⟩ 8 S27_ann [] (Try.f27.body.getD .skip) (bodyQ Try.prog #[.tmp 2] R) (argE [(.slice s_a s_l s_c)]) w = S27 s_a s_l s_c w R := by kernel_rfl
/-- A call of 'slices.Clone[[]carfax/api.Waiter,carfax/api.Waiter]', by its condition. -/
theorem S27_calls {s_a : Option Addr} {s_l : Nat} {s_c : Nat} {w : World} {R : Value → World → Prop} (hS : S27 s_a s_l s_c w R) : Ret Try.prog 27 [(.slice s_a s_l s_c)] w R :=
  R_calls (C := ⟨cal, S27_nx⟩) cal_ok follows Try.func27 (c := Try.f27.body.getD .skip) (res := #[.tmp 2]) (n := 8) (by kernel_rfl) (by kernel_rfl) (by kernel_rfl) (by kernel_rfl) ((S27_eq s_a s_l s_c w R).mpr hS)

def S28_ann (p : List Nat) : Option LA := match p with
  | [0, 1, 0, 1, 1] => some ⟨[0], [(3, .one (.int .i64)), (4, .one (.int .i64))]⟩
  | _ => none

def S28_nx (t : Nat) : Option (TypeId × TypeId) := none

def S28_k4 (q : Option Addr) (best : Int) (i : Int) (t58 : Bool) (w : World) (R : Value → World → Prop) (B1 : (Int) × (Int) × Unit → World → Prop) : Prop :=
  cond t58 (
    B1 (i, (IntKind.i64.wrap (i + 1)), ()) w
  ) (
    B1 (best, (IntKind.i64.wrap (i + 1)), ()) w
  )

def S28_k3 (q : Option Addr) (best : Int) (i : Int) (w : World) (R : Value → World → Prop) (B1 : (Int) × (Int) × Unit → World → Prop) : Prop :=
  cond (decide ((best : Int) < 0)) (
    (
      S28_k4 q best i true w.drew R B1
    ) ∧
    (
      S28_k4 q best i true w.drew R B1
    )
  ) (
    ∃ (t42 : Addr),
    q = some t42 ∧
    ∃ (t50 : Addr),
    q = some t50 ∧
    (
      ∃ (t44_a : Option Addr) (t44_l : Nat) (t44_c : Nat),
      w.drew.cell? t42 = some (.slice t44_a t44_l t44_c) ∧
      ∃ (t46 : Addr),
      t44_a = some t46 ∧
      0 ≤ (i : Int) ∧
      (i : Int) < ((t44_l : Nat) : Int) ∧
      ∃ (t52_a : Option Addr) (t52_l : Nat) (t52_c : Nat),
      w.drew.cell? t50 = some (.slice t52_a t52_l t52_c) ∧
      ∃ (t54 : Addr),
      t52_a = some t54 ∧
      0 ≤ (best : Int) ∧
      (best : Int) < ((t52_l : Nat) : Int) ∧
      ∃ (t48 : Int),
      w.drew.cell? ((t46.add (Int.toNat i * 3)).add 1) = some (.int .i64 t48) ∧
      ∃ (t56 : Int),
      w.drew.cell? ((t54.add (Int.toNat best * 3)).add 1) = some (.int .i64 t56) ∧
      S28_k4 q best i (decide ((t56 : Int) < t48)) w.drew R B1
    ) ∧
    (
      ∃ (t52_a_1 : Option Addr) (t52_l_1 : Nat) (t52_c_1 : Nat),
      w.drew.cell? t50 = some (.slice t52_a_1 t52_l_1 t52_c_1) ∧
      ∃ (t54_1 : Addr),
      t52_a_1 = some t54_1 ∧
      0 ≤ (best : Int) ∧
      (best : Int) < ((t52_l_1 : Nat) : Int) ∧
      ∃ (t44_a_1 : Option Addr) (t44_l_1 : Nat) (t44_c_1 : Nat),
      w.drew.cell? t42 = some (.slice t44_a_1 t44_l_1 t44_c_1) ∧
      ∃ (t46_1 : Addr),
      t44_a_1 = some t46_1 ∧
      0 ≤ (i : Int) ∧
      (i : Int) < ((t44_l_1 : Nat) : Int) ∧
      ∃ (t48_1 : Int),
      w.drew.cell? ((t46_1.add (Int.toNat i * 3)).add 1) = some (.int .i64 t48_1) ∧
      ∃ (t56_1 : Int),
      w.drew.cell? ((t54_1.add (Int.toNat best * 3)).add 1) = some (.int .i64 t56_1) ∧
      S28_k4 q best i (decide ((t56_1 : Int) < t48_1)) w.drew R B1
    )
  )

def S28_k2 (q : Option Addr) (best : Int) (i : Int) (t36 : Bool) (w : World) (R : Value → World → Prop) (B1 : (Int) × (Int) × Unit → World → Prop) : Prop :=
  cond t36 (
    R (.int .i64 i) w
  ) (
    S28_k3 q best i w R B1
  )

def S28_k1 (q : Option Addr) (best : Int) (i : Int) (w : World) (R : Value → World → Prop) (B1 : (Int) × (Int) × Unit → World → Prop) : Prop :=
  ∃ (t15 : Addr),
  q = some t15 ∧
  ∃ (t23 : Addr),
  q = some t23 ∧
  ∃ (t27 : Addr),
  q = some t27 ∧
  (
    ∃ (t17_a : Option Addr) (t17_l : Nat) (t17_c : Nat),
    w.drew.cell? t15 = some (.slice t17_a t17_l t17_c) ∧
    ∃ (t19 : Addr),
    t17_a = some t19 ∧
    0 ≤ (i : Int) ∧
    (i : Int) < ((t17_l : Nat) : Int) ∧
    ∃ (t29_a : Option Addr) (t29_l : Nat) (t29_c : Nat),
    w.drew.cell? t27 = some (.slice t29_a t29_l t29_c) ∧
    ∃ (t31 : Addr),
    t29_a = some t31 ∧
    0 ≤ (i : Int) ∧
    (i : Int) < ((t29_l : Nat) : Int) ∧
    ∃ (t33 : Int),
    w.drew.cell? ((t31.add (Int.toNat i * 3)).add 1) = some (.int .i64 t33) ∧
    ∃ (t25 : Int),
    w.drew.cell? (t23.add 2) = some (.int .i64 t25) ∧
    ∃ (t21 : Int),
    w.drew.cell? ((t19.add (Int.toNat i * 3)).add 2) = some (.int .i64 t21) ∧
    S28_k2 q best i (decide (((IntKind.i64.wrap (t25 * (IntKind.i64.wrap (5 - t33)))) : Int) ≤ t21)) w.drew R B1
  ) ∧
  (
    ∃ (t25_1 : Int),
    w.drew.cell? (t23.add 2) = some (.int .i64 t25_1) ∧
    (
      ∃ (t17_a_1 : Option Addr) (t17_l_1 : Nat) (t17_c_1 : Nat),
      w.drew.cell? t15 = some (.slice t17_a_1 t17_l_1 t17_c_1) ∧
      ∃ (t19_1 : Addr),
      t17_a_1 = some t19_1 ∧
      0 ≤ (i : Int) ∧
      (i : Int) < ((t17_l_1 : Nat) : Int) ∧
      ∃ (t29_a_1 : Option Addr) (t29_l_1 : Nat) (t29_c_1 : Nat),
      w.drew.cell? t27 = some (.slice t29_a_1 t29_l_1 t29_c_1) ∧
      ∃ (t31_1 : Addr),
      t29_a_1 = some t31_1 ∧
      0 ≤ (i : Int) ∧
      (i : Int) < ((t29_l_1 : Nat) : Int) ∧
      ∃ (t33_1 : Int),
      w.drew.cell? ((t31_1.add (Int.toNat i * 3)).add 1) = some (.int .i64 t33_1) ∧
      ∃ (t21_1 : Int),
      w.drew.cell? ((t19_1.add (Int.toNat i * 3)).add 2) = some (.int .i64 t21_1) ∧
      S28_k2 q best i (decide (((IntKind.i64.wrap (t25_1 * (IntKind.i64.wrap (5 - t33_1)))) : Int) ≤ t21_1)) w.drew R B1
    ) ∧
    (
      ∃ (t29_a_2 : Option Addr) (t29_l_2 : Nat) (t29_c_2 : Nat),
      w.drew.cell? t27 = some (.slice t29_a_2 t29_l_2 t29_c_2) ∧
      ∃ (t31_2 : Addr),
      t29_a_2 = some t31_2 ∧
      0 ≤ (i : Int) ∧
      (i : Int) < ((t29_l_2 : Nat) : Int) ∧
      (
        ∃ (t17_a_2 : Option Addr) (t17_l_2 : Nat) (t17_c_2 : Nat),
        w.drew.cell? t15 = some (.slice t17_a_2 t17_l_2 t17_c_2) ∧
        ∃ (t19_2 : Addr),
        t17_a_2 = some t19_2 ∧
        0 ≤ (i : Int) ∧
        (i : Int) < ((t17_l_2 : Nat) : Int) ∧
        ∃ (t33_2 : Int),
        w.drew.cell? ((t31_2.add (Int.toNat i * 3)).add 1) = some (.int .i64 t33_2) ∧
        ∃ (t21_2 : Int),
        w.drew.cell? ((t19_2.add (Int.toNat i * 3)).add 2) = some (.int .i64 t21_2) ∧
        S28_k2 q best i (decide (((IntKind.i64.wrap (t25_1 * (IntKind.i64.wrap (5 - t33_2)))) : Int) ≤ t21_2)) w.drew R B1
      ) ∧
      (
        ∃ (t33_3 : Int),
        w.drew.cell? ((t31_2.add (Int.toNat i * 3)).add 1) = some (.int .i64 t33_3) ∧
        ∃ (t17_a_3 : Option Addr) (t17_l_3 : Nat) (t17_c_3 : Nat),
        w.drew.cell? t15 = some (.slice t17_a_3 t17_l_3 t17_c_3) ∧
        ∃ (t19_3 : Addr),
        t17_a_3 = some t19_3 ∧
        0 ≤ (i : Int) ∧
        (i : Int) < ((t17_l_3 : Nat) : Int) ∧
        ∃ (t21_3 : Int),
        w.drew.cell? ((t19_3.add (Int.toNat i * 3)).add 2) = some (.int .i64 t21_3) ∧
        S28_k2 q best i (decide (((IntKind.i64.wrap (t25_1 * (IntKind.i64.wrap (5 - t33_3)))) : Int) ≤ t21_3)) w.drew R B1
      )
    )
  ) ∧
  (
    ∃ (t29_a_3 : Option Addr) (t29_l_3 : Nat) (t29_c_3 : Nat),
    w.drew.cell? t27 = some (.slice t29_a_3 t29_l_3 t29_c_3) ∧
    ∃ (t31_3 : Addr),
    t29_a_3 = some t31_3 ∧
    0 ≤ (i : Int) ∧
    (i : Int) < ((t29_l_3 : Nat) : Int) ∧
    (
      ∃ (t17_a_4 : Option Addr) (t17_l_4 : Nat) (t17_c_4 : Nat),
      w.drew.cell? t15 = some (.slice t17_a_4 t17_l_4 t17_c_4) ∧
      ∃ (t19_4 : Addr),
      t17_a_4 = some t19_4 ∧
      0 ≤ (i : Int) ∧
      (i : Int) < ((t17_l_4 : Nat) : Int) ∧
      ∃ (t33_4 : Int),
      w.drew.cell? ((t31_3.add (Int.toNat i * 3)).add 1) = some (.int .i64 t33_4) ∧
      ∃ (t25_2 : Int),
      w.drew.cell? (t23.add 2) = some (.int .i64 t25_2) ∧
      ∃ (t21_4 : Int),
      w.drew.cell? ((t19_4.add (Int.toNat i * 3)).add 2) = some (.int .i64 t21_4) ∧
      S28_k2 q best i (decide (((IntKind.i64.wrap (t25_2 * (IntKind.i64.wrap (5 - t33_4)))) : Int) ≤ t21_4)) w.drew R B1
    ) ∧
    (
      ∃ (t25_3 : Int),
      w.drew.cell? (t23.add 2) = some (.int .i64 t25_3) ∧
      (
        ∃ (t17_a_5 : Option Addr) (t17_l_5 : Nat) (t17_c_5 : Nat),
        w.drew.cell? t15 = some (.slice t17_a_5 t17_l_5 t17_c_5) ∧
        ∃ (t19_5 : Addr),
        t17_a_5 = some t19_5 ∧
        0 ≤ (i : Int) ∧
        (i : Int) < ((t17_l_5 : Nat) : Int) ∧
        ∃ (t33_5 : Int),
        w.drew.cell? ((t31_3.add (Int.toNat i * 3)).add 1) = some (.int .i64 t33_5) ∧
        ∃ (t21_5 : Int),
        w.drew.cell? ((t19_5.add (Int.toNat i * 3)).add 2) = some (.int .i64 t21_5) ∧
        S28_k2 q best i (decide (((IntKind.i64.wrap (t25_3 * (IntKind.i64.wrap (5 - t33_5)))) : Int) ≤ t21_5)) w.drew R B1
      ) ∧
      (
        ∃ (t33_6 : Int),
        w.drew.cell? ((t31_3.add (Int.toNat i * 3)).add 1) = some (.int .i64 t33_6) ∧
        ∃ (t17_a_6 : Option Addr) (t17_l_6 : Nat) (t17_c_6 : Nat),
        w.drew.cell? t15 = some (.slice t17_a_6 t17_l_6 t17_c_6) ∧
        ∃ (t19_6 : Addr),
        t17_a_6 = some t19_6 ∧
        0 ≤ (i : Int) ∧
        (i : Int) < ((t17_l_6 : Nat) : Int) ∧
        ∃ (t21_6 : Int),
        w.drew.cell? ((t19_6.add (Int.toNat i * 3)).add 2) = some (.int .i64 t21_6) ∧
        S28_k2 q best i (decide (((IntKind.i64.wrap (t25_3 * (IntKind.i64.wrap (5 - t33_6)))) : Int) ≤ t21_6)) w.drew R B1
      )
    ) ∧
    (
      ∃ (t33_7 : Int),
      w.drew.cell? ((t31_3.add (Int.toNat i * 3)).add 1) = some (.int .i64 t33_7) ∧
      (
        ∃ (t17_a_7 : Option Addr) (t17_l_7 : Nat) (t17_c_7 : Nat),
        w.drew.cell? t15 = some (.slice t17_a_7 t17_l_7 t17_c_7) ∧
        ∃ (t19_7 : Addr),
        t17_a_7 = some t19_7 ∧
        0 ≤ (i : Int) ∧
        (i : Int) < ((t17_l_7 : Nat) : Int) ∧
        ∃ (t25_4 : Int),
        w.drew.cell? (t23.add 2) = some (.int .i64 t25_4) ∧
        ∃ (t21_7 : Int),
        w.drew.cell? ((t19_7.add (Int.toNat i * 3)).add 2) = some (.int .i64 t21_7) ∧
        S28_k2 q best i (decide (((IntKind.i64.wrap (t25_4 * (IntKind.i64.wrap (5 - t33_7)))) : Int) ≤ t21_7)) w.drew R B1
      ) ∧
      (
        ∃ (t25_5 : Int),
        w.drew.cell? (t23.add 2) = some (.int .i64 t25_5) ∧
        ∃ (t17_a_8 : Option Addr) (t17_l_8 : Nat) (t17_c_8 : Nat),
        w.drew.cell? t15 = some (.slice t17_a_8 t17_l_8 t17_c_8) ∧
        ∃ (t19_8 : Addr),
        t17_a_8 = some t19_8 ∧
        0 ≤ (i : Int) ∧
        (i : Int) < ((t17_l_8 : Nat) : Int) ∧
        ∃ (t21_8 : Int),
        w.drew.cell? ((t19_8.add (Int.toNat i * 3)).add 2) = some (.int .i64 t21_8) ∧
        S28_k2 q best i (decide (((IntKind.i64.wrap (t25_5 * (IntKind.i64.wrap (5 - t33_7)))) : Int) ≤ t21_8)) w.drew R B1
      )
    )
  )

def S28_L0 (q : Option Addr) (best : Int) (i : Int) (w : World) (R : Value → World → Prop) (B1 : (Int) × (Int) × Unit → World → Prop) : Prop :=
  ∃ (t7 : Addr),
  q = some t7 ∧
  ∃ (t9_a : Option Addr) (t9_l : Nat) (t9_c : Nat),
  w.cell? t7 = some (.slice t9_a t9_l t9_c) ∧
  cond (decide ((i : Int) < ((t9_l : Nat) : Int))) (
    S28_k1 q best i w R B1
  ) (
    R (.int .i64 best) w
  )

def S28 (q : Option Addr) (w : World) (R : Value → World → Prop) : Prop :=
  ∃ (I : (Int) × (Int) × Unit → World → Prop) (μ : (Int) × (Int) × Unit → World → Nat),
  I ((-1), 0, ()) w ∧
  ∀ (J : Env) (s : (Int) × (Int) × Unit) (w' : World), I s w' →
    S28_L0 q s.1 s.2.1 w' R (fun s' w'' => I s' w'' ∧ μ s' w'' < μ s w')

theorem S28_eq (q : Option Addr) (w : World) (R : Value → World → Prop) : Eng.R Try.prog ⟨cal, S28_nx⟩ 61 S28_ann [] (Try.f28.body.getD .skip) (bodyQ Try.prog #[.tmp 2] R) (argE [(.pointer q)]) w = S28 q w R := by kernel_rfl
/-- A call of '(*carfax/carfaxref12.Queue).next', by its condition. -/
theorem S28_calls {q : Option Addr} {w : World} {R : Value → World → Prop} (hS : S28 q w R) : Ret Try.prog 28 [(.pointer q)] w R :=
  R_calls (C := ⟨cal, S28_nx⟩) cal_ok follows Try.func28 (c := Try.f28.body.getD .skip) (res := #[.tmp 2]) (n := 61) (by kernel_rfl) (by kernel_rfl) (by kernel_rfl) (by kernel_rfl) ((S28_eq q w R).mpr hS)

def S29_ann (p : List Nat) : Option LA :=
  none

def S29_nx (t : Nat) : Option (TypeId × TypeId) := none

def S29 (q : Option Addr) (i : Int) (w : World) (R : Value → World → Prop) : Prop :=
  ∃ (t7 : Addr),
  q = some t7 ∧
  ∃ (t9_a : Option Addr) (t9_l : Nat) (t9_c : Nat),
  (w.alloc (.cells ⟨[]⟩ 40)).cell? t7 = some (.slice t9_a t9_l t9_c) ∧
  0 ≤ (i : Int) ∧
  (i : Int) ≤ ((t9_c : Nat) : Int) ∧
  ∃ (t12_a : Option Addr) (t12_l : Nat) (t12_c : Nat) (w_ : World),
  (Builtin.append_ #[37, 37] 37 ⟨[(.slice (some ⟨w.heap.size, 0, none⟩) 0 0), (.slice (slAddr t9_a t9_c 0 3) ((Int.toNat i) - 0) (t9_c - 0))]⟩).run Try.prog (w.alloc (.cells ⟨[]⟩ 40)) = .ok (.slice t12_a t12_l t12_c) w_ ∧
  ∃ (t15 : Addr),
  q = some t15 ∧
  ∃ (t17_a : Option Addr) (t17_l : Nat) (t17_c : Nat),
  w_.cell? t15 = some (.slice t17_a t17_l t17_c) ∧
  0 ≤ ((IntKind.i64.wrap (i + 1)) : Int) ∧
  ((IntKind.i64.wrap (i + 1)) : Int) ≤ ((t17_l : Nat) : Int) ∧
  ∃ (t21_a : Option Addr) (t21_l : Nat) (t21_c : Nat) (w__1 : World),
  (Builtin.append_ #[37, 37] 37 ⟨[(.slice t12_a t12_l t12_c), (.slice (slAddr t17_a t17_c (Int.toNat (IntKind.i64.wrap (i + 1))) 3) (t17_l - (Int.toNat (IntKind.i64.wrap (i + 1)))) (t17_c - (Int.toNat (IntKind.i64.wrap (i + 1)))))]⟩).run Try.prog w_ = .ok (.slice t21_a t21_l t21_c) w__1 ∧
  ∃ (t24 : Addr),
  q = some t24 ∧
  (∃ u, w__1.cell? t24 = some u) ∧
  w__1.frozen? t24 = false ∧
  R (.tuple ⟨[]⟩) (w__1.setCell t24 (.slice t21_a t21_l t21_c))

theorem S29_eq (q : Option Addr) (i : Int) (w : World) (R : Value → World → Prop) : Eng.R Try.prog ⟨cal, S29_nx⟩ 26 S29_ann [] (Try.f29.body.getD .skip) (bodyQ Try.prog #[] R) (argE [(.pointer q), (.int .i64 i)]) w = S29 q i w R := by kernel_rfl
/-- A call of '(*carfax/carfaxref12.Queue).out', by its condition. -/
theorem S29_calls {q : Option Addr} {i : Int} {w : World} {R : Value → World → Prop} (hS : S29 q i w R) : Ret Try.prog 29 [(.pointer q), (.int .i64 i)] w R :=
  R_calls (C := ⟨cal, S29_nx⟩) cal_ok follows Try.func29 (c := Try.f29.body.getD .skip) (res := #[]) (n := 26) (by kernel_rfl) (by kernel_rfl) (by kernel_rfl) (by kernel_rfl) ((S29_eq q i w R).mpr hS)

def S30_ann (p : List Nat) : Option LA :=
  none

def S30_nx (t : Nat) : Option (TypeId × TypeId) := none

def S30 (q : Option Addr) (w_0 : Int) (w_1 : Int) (w_2 : Int) (w : World) (R : Value → World → Prop) : Prop :=
  ∃ (t8 : Addr),
  q = some t8 ∧
  ∃ (t12 : Int),
  (w.alloc (.cells ⟨[(.int .i64 w_0), (.int .i64 w_1), (.int .i64 w_2)]⟩ 40)).drew.cell? ⟨w.heap.size, 1, none⟩ = some (.int .i64 t12) ∧
  ∃ (t10 : Int),
  (w.alloc (.cells ⟨[(.int .i64 w_0), (.int .i64 w_1), (.int .i64 w_2)]⟩ 40)).drew.cell? (t8.add 2) = some (.int .i64 t10) ∧
  ∃ (t6 : Int),
  (w.alloc (.cells ⟨[(.int .i64 w_0), (.int .i64 w_1), (.int .i64 w_2)]⟩ 40)).drew.cell? ⟨w.heap.size, 2, none⟩ = some (.int .i64 t6) ∧
  R (.bool (decide (((IntKind.i64.wrap (t10 * (IntKind.i64.wrap (5 - t12)))) : Int) ≤ t6))) (w.alloc (.cells ⟨[(.int .i64 w_0), (.int .i64 w_1), (.int .i64 w_2)]⟩ 40)).drew

theorem S30_eq (q : Option Addr) (w_0 : Int) (w_1 : Int) (w_2 : Int) (w : World) (R : Value → World → Prop) : Eng.R Try.prog ⟨cal, S30_nx⟩ 16 S30_ann [] (Try.f30.body.getD .skip) (bodyQ Try.prog #[.tmp 4] R) (argE [(.pointer q), (.agg ⟨[(.int .i64 w_0), (.int .i64 w_1), (.int .i64 w_2)]⟩)]) w = S30 q w_0 w_1 w_2 w R := by kernel_rfl
/-- A call of '(*carfax/aging.Queue).due', by its condition. -/
theorem S30_calls {q : Option Addr} {w_0 : Int} {w_1 : Int} {w_2 : Int} {w : World} {R : Value → World → Prop} (hS : S30 q w_0 w_1 w_2 w R) : Ret Try.prog 30 [(.pointer q), (.agg ⟨[(.int .i64 w_0), (.int .i64 w_1), (.int .i64 w_2)]⟩)] w R :=
  R_calls (C := ⟨cal, S30_nx⟩) cal_ok follows Try.func30 (c := Try.f30.body.getD .skip) (res := #[.tmp 4]) (n := 16) (by kernel_rfl) (by kernel_rfl) (by kernel_rfl) (by kernel_rfl) ((S30_eq q w_0 w_1 w_2 w R).mpr hS)

def S25_f26_ann (p : List Nat) : Option LA := match p with
  | [0, 1, 0, 1] => some ⟨[0, 1, 7], [(8, .one (.int .i64))]⟩
  | _ => none

def S25_f26_nx (t : Nat) : Option (TypeId × TypeId) := none

def S25_f26_k1 (s_a : Option Addr) (s_l : Nat) (s_c : Nat) (f_c0 : Addr) (t7 : Int) (t8 : Int) (w : World) (R : Value → World → Prop) (B1 : (Int) × Unit → World → Prop) : Prop :=
  ∃ (t14 : Addr),
  s_a = some t14 ∧
  0 ≤ (t8 : Int) ∧
  (t8 : Int) < ((s_l : Nat) : Int) ∧
  ∃ (t15_0 : Int),
  w.cell? (t14.add (Int.toNat t8 * 3)) = some (.int .i64 t15_0) ∧
  ∃ (t15_1 : Int),
  w.cell? ((t14.add (Int.toNat t8 * 3)).add 1) = some (.int .i64 t15_1) ∧
  ∃ (t15_2 : Int),
  w.cell? ((t14.add (Int.toNat t8 * 3)).add 2) = some (.int .i64 t15_2) ∧
  Calls Try.prog 26 ⟨[(.agg ⟨[(.int .i64 t15_0), (.int .i64 t15_1), (.int .i64 t15_2)]⟩), (.pointer (some f_c0))]⟩ w fun e w_ =>
    ∃ (t16 : Bool),
    e = .returned (.bool t16) ∧
    cond t16 (
      R (.int .i64 t8) w_
    ) (
      B1 ((IntKind.i64.wrap (t8 + 1)), ()) w_
    )

def S25_f26_L0 (s_a : Option Addr) (s_l : Nat) (s_c : Nat) (f_c0 : Addr) (t7 : Int) (t8 : Int) (w : World) (R : Value → World → Prop) (B1 : (Int) × Unit → World → Prop) : Prop :=
  cond (decide ((t8 : Int) < t7)) (
    S25_f26_k1 s_a s_l s_c f_c0 t7 t8 w R B1
  ) (
    R (.int .i64 (-1)) w
  )

def S25_f26 (s_a : Option Addr) (s_l : Nat) (s_c : Nat) (cap : Addr) (w : World) (R : Value → World → Prop) : Prop :=
  ∃ (I : (Int) × Unit → World → Prop) (μ : (Int) × Unit → World → Nat),
  I (0, ()) w ∧
  ∀ (J : Env) (s : (Int) × Unit) (w' : World), I s w' →
    S25_f26_L0 s_a s_l s_c cap ((s_l : Nat) : Int) s.1 w' R (fun s' w'' => I s' w'' ∧ μ s' w'' < μ s w')

theorem S25_f26_eq (s_a : Option Addr) (s_l : Nat) (s_c : Nat) (cap : Addr) (w : World) (R : Value → World → Prop) : Eng.R Try.prog ⟨cal, S25_f26_nx⟩ 19 S25_f26_ann [] (Try.f25.body.getD .skip) (bodyQ Try.prog #[.tmp 4] R) (argE [(.slice s_a s_l s_c), (.func (.func 26) ⟨[]⟩ ⟨[(.pointer (some cap))]⟩)]) w = S25_f26 s_a s_l s_c cap w R := by kernel_rfl
/-- A call of 'slices.IndexFunc[[]carfax/api.Waiter,carfax/api.Waiter]', by its condition. -/
theorem S25_f26_calls {s_a : Option Addr} {s_l : Nat} {s_c : Nat} {cap : Addr} {w : World} {R : Value → World → Prop} (hS : S25_f26 s_a s_l s_c cap w R) : Ret Try.prog 25 [(.slice s_a s_l s_c), (.func (.func 26) ⟨[]⟩ ⟨[(.pointer (some cap))]⟩)] w R :=
  R_calls (C := ⟨cal, S25_f26_nx⟩) cal_ok follows Try.func25 (c := Try.f25.body.getD .skip) (res := #[.tmp 4]) (n := 19) (by kernel_rfl) (by kernel_rfl) (by kernel_rfl) (by kernel_rfl) ((S25_f26_eq s_a s_l s_c cap w R).mpr hS)

def S25_f30_ann (p : List Nat) : Option LA := match p with
  | [0, 1, 0, 1] => some ⟨[0, 1, 7], [(8, .one (.int .i64))]⟩
  | _ => none

def S25_f30_nx (t : Nat) : Option (TypeId × TypeId) := none

def S25_f30_k1 (s_a : Option Addr) (s_l : Nat) (s_c : Nat) (f_f0 : Option Addr) (t7 : Int) (t8 : Int) (w : World) (R : Value → World → Prop) (B1 : (Int) × Unit → World → Prop) : Prop :=
  ∃ (t14 : Addr),
  s_a = some t14 ∧
  0 ≤ (t8 : Int) ∧
  (t8 : Int) < ((s_l : Nat) : Int) ∧
  ∃ (t15_0 : Int),
  w.cell? (t14.add (Int.toNat t8 * 3)) = some (.int .i64 t15_0) ∧
  ∃ (t15_1 : Int),
  w.cell? ((t14.add (Int.toNat t8 * 3)).add 1) = some (.int .i64 t15_1) ∧
  ∃ (t15_2 : Int),
  w.cell? ((t14.add (Int.toNat t8 * 3)).add 2) = some (.int .i64 t15_2) ∧
  Calls Try.prog 30 ⟨[(.pointer f_f0), (.agg ⟨[(.int .i64 t15_0), (.int .i64 t15_1), (.int .i64 t15_2)]⟩)]⟩ w fun e w_ =>
    ∃ (t16 : Bool),
    e = .returned (.bool t16) ∧
    cond t16 (
      R (.int .i64 t8) w_
    ) (
      B1 ((IntKind.i64.wrap (t8 + 1)), ()) w_
    )

def S25_f30_L0 (s_a : Option Addr) (s_l : Nat) (s_c : Nat) (f_f0 : Option Addr) (t7 : Int) (t8 : Int) (w : World) (R : Value → World → Prop) (B1 : (Int) × Unit → World → Prop) : Prop :=
  cond (decide ((t8 : Int) < t7)) (
    S25_f30_k1 s_a s_l s_c f_f0 t7 t8 w R B1
  ) (
    R (.int .i64 (-1)) w
  )

def S25_f30 (s_a : Option Addr) (s_l : Nat) (s_c : Nat) (bnd : Option Addr) (w : World) (R : Value → World → Prop) : Prop :=
  ∃ (I : (Int) × Unit → World → Prop) (μ : (Int) × Unit → World → Nat),
  I (0, ()) w ∧
  ∀ (J : Env) (s : (Int) × Unit) (w' : World), I s w' →
    S25_f30_L0 s_a s_l s_c bnd ((s_l : Nat) : Int) s.1 w' R (fun s' w'' => I s' w'' ∧ μ s' w'' < μ s w')

theorem S25_f30_eq (s_a : Option Addr) (s_l : Nat) (s_c : Nat) (bnd : Option Addr) (w : World) (R : Value → World → Prop) : Eng.R Try.prog ⟨cal, S25_f30_nx⟩ 19 S25_f30_ann [] (Try.f25.body.getD .skip) (bodyQ Try.prog #[.tmp 4] R) (argE [(.slice s_a s_l s_c), (.func (.func 30) ⟨[(.pointer bnd)]⟩ ⟨[]⟩)]) w = S25_f30 s_a s_l s_c bnd w R := by kernel_rfl
/-- A call of 'slices.IndexFunc[[]carfax/api.Waiter,carfax/api.Waiter]', by its condition. -/
theorem S25_f30_calls {s_a : Option Addr} {s_l : Nat} {s_c : Nat} {bnd : Option Addr} {w : World} {R : Value → World → Prop} (hS : S25_f30 s_a s_l s_c bnd w R) : Ret Try.prog 25 [(.slice s_a s_l s_c), (.func (.func 30) ⟨[(.pointer bnd)]⟩ ⟨[]⟩)] w R :=
  R_calls (C := ⟨cal, S25_f30_nx⟩) cal_ok follows Try.func25 (c := Try.f25.body.getD .skip) (res := #[.tmp 4]) (n := 19) (by kernel_rfl) (by kernel_rfl) (by kernel_rfl) (by kernel_rfl) ((S25_f30_eq s_a s_l s_c bnd w R).mpr hS)

end Go.Proofs
