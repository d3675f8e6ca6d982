import Derived.Test.YtgcoecbbgipgpaaProg
import Derived.Test.YtgcoecbbgipgpaaEng8
set_option linter.unusedVariables false
set_option maxRecDepth 100000
namespace Go.Proofs
open Go Go.Eng
def cal (f : FuncId) : Bool := Nat.ble 3 f && Nat.blt f 27
theorem cal_all : (List.range 27).all (fun f => !cal f || callable Try.prog f) = true := by kernel_rfl
theorem cal_ok (f : FuncId) (h : cal f = true) : callable Try.prog f = true := by
  have hb := h
  simp only [cal, Bool.and_eq_true, Nat.blt_eq] at hb
  have := List.all_eq_true.1 cal_all f (List.mem_range.2 hb.2)
  rw [h] at this
  simpa using this
theorem follows : Try.prog.follows .mixedOrders = true := by kernel_rfl

def S3_ann (p : List Nat) : Option LA := match p with
  | [0, 1, 0, 1, 1, 1, 1, 1] => some ⟨[3, 4, 5, 23, 24], [(25, .one (.int .i64))]⟩
  | _ => none

def S3_nx (t : Nat) : Option (TypeId × TypeId) := none

def S3_k5 (t3 : Bool) (t4 : Option Addr) (t5 : Addr) (t23_a : Option Addr) (t23_l : Nat) (t23_c : Nat) (t24 : Int) (t25 : Int) (t84 : Bool) (w : World) (R : Value → World → Prop) (B1 : (Int) × Unit → World → Prop) : Prop :=
  cond t84 (
    R (.bool false) w
  ) (
    B1 ((IntKind.i64.wrap (t25 + 1)), ()) w
  )

def S3_k4 (t3 : Bool) (t4 : Option Addr) (t5 : Addr) (t23_a : Option Addr) (t23_l : Nat) (t23_c : Nat) (t24 : Int) (t25 : Int) (w : World) (R : Value → World → Prop) (B1 : (Int) × Unit → World → Prop) : Prop :=
  Calls Try.prog 17 ⟨[(.pointer t4)]⟩ w fun e w_ =>
    ∃ (t59_0_0 : Int) (t59_0_1 : Int) (t59_1 : Bool),
    e = .returned (.tuple ⟨[(.agg ⟨[(.int .i64 t59_0_0), (.int .i64 t59_0_1)]⟩), (.bool t59_1)]⟩) ∧
    (∃ u, (w_.alloc (.cells ⟨[(.int .i64 0), (.int .i64 0)]⟩ 32)).cell? ⟨w_.heap.size, 0, none⟩ = some u) ∧
    (w_.alloc (.cells ⟨[(.int .i64 0), (.int .i64 0)]⟩ 32)).frozen? ⟨w_.heap.size, 0, none⟩ = false ∧
    (∃ u, ((w_.alloc (.cells ⟨[(.int .i64 0), (.int .i64 0)]⟩ 32)).setCell ⟨w_.heap.size, 0, none⟩ (.int .i64 t59_0_0)).cell? ⟨w_.heap.size, 1, none⟩ = some u) ∧
    ((w_.alloc (.cells ⟨[(.int .i64 0), (.int .i64 0)]⟩ 32)).setCell ⟨w_.heap.size, 0, none⟩ (.int .i64 t59_0_0)).frozen? ⟨w_.heap.size, 1, none⟩ = false ∧
    Calls Try.prog 18 ⟨[(.pointer (some t5))]⟩ (((w_.alloc (.cells ⟨[(.int .i64 0), (.int .i64 0)]⟩ 32)).setCell ⟨w_.heap.size, 0, none⟩ (.int .i64 t59_0_0)).setCell ⟨w_.heap.size, 1, none⟩ (.int .i64 t59_0_1)) fun e w__1 =>
      ∃ (t64_0_0 : Int) (t64_0_1 : Int) (t64_1 : Bool),
      e = .returned (.tuple ⟨[(.agg ⟨[(.int .i64 t64_0_0), (.int .i64 t64_0_1)]⟩), (.bool t64_1)]⟩) ∧
      (∃ u, (w__1.alloc (.cells ⟨[(.int .i64 0), (.int .i64 0)]⟩ 32)).cell? ⟨w__1.heap.size, 0, none⟩ = some u) ∧
      (w__1.alloc (.cells ⟨[(.int .i64 0), (.int .i64 0)]⟩ 32)).frozen? ⟨w__1.heap.size, 0, none⟩ = false ∧
      (∃ u, ((w__1.alloc (.cells ⟨[(.int .i64 0), (.int .i64 0)]⟩ 32)).setCell ⟨w__1.heap.size, 0, none⟩ (.int .i64 t64_0_0)).cell? ⟨w__1.heap.size, 1, none⟩ = some u) ∧
      ((w__1.alloc (.cells ⟨[(.int .i64 0), (.int .i64 0)]⟩ 32)).setCell ⟨w__1.heap.size, 0, none⟩ (.int .i64 t64_0_0)).frozen? ⟨w__1.heap.size, 1, none⟩ = false ∧
      ∃ (t67_0 : Int),
      (((w__1.alloc (.cells ⟨[(.int .i64 0), (.int .i64 0)]⟩ 32)).setCell ⟨w__1.heap.size, 0, none⟩ (.int .i64 t64_0_0)).setCell ⟨w__1.heap.size, 1, none⟩ (.int .i64 t64_0_1)).drew.cell? ⟨w_.heap.size, 0, none⟩ = some (.int .i64 t67_0) ∧
      ∃ (t67_1 : Int),
      (((w__1.alloc (.cells ⟨[(.int .i64 0), (.int .i64 0)]⟩ 32)).setCell ⟨w__1.heap.size, 0, none⟩ (.int .i64 t64_0_0)).setCell ⟨w__1.heap.size, 1, none⟩ (.int .i64 t64_0_1)).drew.cell? ⟨w_.heap.size, 1, none⟩ = some (.int .i64 t67_1) ∧
      ∃ (t68_0 : Int),
      (((w__1.alloc (.cells ⟨[(.int .i64 0), (.int .i64 0)]⟩ 32)).setCell ⟨w__1.heap.size, 0, none⟩ (.int .i64 t64_0_0)).setCell ⟨w__1.heap.size, 1, none⟩ (.int .i64 t64_0_1)).drew.cell? ⟨w__1.heap.size, 0, none⟩ = some (.int .i64 t68_0) ∧
      ∃ (t68_1 : Int),
      (((w__1.alloc (.cells ⟨[(.int .i64 0), (.int .i64 0)]⟩ 32)).setCell ⟨w__1.heap.size, 0, none⟩ (.int .i64 t64_0_0)).setCell ⟨w__1.heap.size, 1, none⟩ (.int .i64 t64_0_1)).drew.cell? ⟨w__1.heap.size, 1, none⟩ = some (.int .i64 t68_1) ∧
      ∃ (t69 : Bool) (w__2 : World),
      (do eqGuard .neq 32 (.tmp 67) (.tmp 68) (.agg ⟨[(.int .i64 t67_0), (.int .i64 t67_1)]⟩) (.agg ⟨[(.int .i64 t68_0), (.int .i64 t68_1)]⟩); binOp .neq 32 (.agg ⟨[(.int .i64 t67_0), (.int .i64 t67_1)]⟩) (.agg ⟨[(.int .i64 t68_0), (.int .i64 t68_1)]⟩)).run Try.prog (((w__1.alloc (.cells ⟨[(.int .i64 0), (.int .i64 0)]⟩ 32)).setCell ⟨w__1.heap.size, 0, none⟩ (.int .i64 t64_0_0)).setCell ⟨w__1.heap.size, 1, none⟩ (.int .i64 t64_0_1)).drew = .ok (.bool t69) w__2 ∧
      cond t69 (
        (
          S3_k5 t3 t4 t5 t23_a t23_l t23_c t24 t25 true w__2 R B1
        ) ∧
        (
          S3_k5 t3 t4 t5 t23_a t23_l t23_c t24 t25 true w__2 R B1
        )
      ) (
        cond (!(t59_1 == t64_1)) (
          (
            S3_k5 t3 t4 t5 t23_a t23_l t23_c t24 t25 true w__2 R B1
          ) ∧
          (
            S3_k5 t3 t4 t5 t23_a t23_l t23_c t24 t25 true w__2 R B1
          )
        ) (
          ∃ (t79 : Addr),
          (some t5) = some t79 ∧
          (
            Calls Try.prog 19 ⟨[(.pointer t4)]⟩ w__2 fun e w__3 =>
              ∃ (t77 : Int),
              e = .returned (.int .i64 t77) ∧
              ∃ (t81_a : Option Addr) (t81_l : Nat) (t81_c : Nat),
              w__3.cell? t79 = some (.slice t81_a t81_l t81_c) ∧
              S3_k5 t3 t4 t5 t23_a t23_l t23_c t24 t25 (!decide ((t77 : Int) = ((t81_l : Nat) : Int))) w__3 R B1
          ) ∧
          (
            ∃ (t81_a_1 : Option Addr) (t81_l_1 : Nat) (t81_c_1 : Nat),
            w__2.cell? t79 = some (.slice t81_a_1 t81_l_1 t81_c_1) ∧
            Calls Try.prog 19 ⟨[(.pointer t4)]⟩ w__2 fun e w__4 =>
              ∃ (t77_1 : Int),
              e = .returned (.int .i64 t77_1) ∧
              S3_k5 t3 t4 t5 t23_a t23_l t23_c t24 t25 (!decide ((t77_1 : Int) = ((t81_l_1 : Nat) : Int))) w__4 R B1
          )
        )
      )

def S3_k3 (t3 : Bool) (t4 : Option Addr) (t5 : Addr) (t23_a : Option Addr) (t23_l : Nat) (t23_c : Nat) (t24 : Int) (t25 : Int) (t48 : Bool) (w : World) (R : Value → World → Prop) (B1 : (Int) × Unit → World → Prop) : Prop :=
  cond t48 (
    R (.bool false) w
  ) (
    S3_k4 t3 t4 t5 t23_a t23_l t23_c t24 t25 w R B1
  )

def S3_k2 (t3 : Bool) (t4 : Option Addr) (t5 : Addr) (t23_a : Option Addr) (t23_l : Nat) (t23_c : Nat) (t24 : Int) (t25 : Int) (w : World) (R : Value → World → Prop) (B1 : (Int) × Unit → World → Prop) : Prop :=
  ∃ (t27 : Addr),
  t23_a = some t27 ∧
  0 ≤ (t25 : Int) ∧
  (t25 : Int) < ((t23_l : Nat) : Int) ∧
  ∃ (t28_0 : Bool),
  w.cell? (t27.add (Int.toNat t25 * 3)) = some (.bool t28_0) ∧
  ∃ (t28_1 : Int),
  w.cell? ((t27.add (Int.toNat t25 * 3)).add 1) = some (.int .i64 t28_1) ∧
  ∃ (t28_2 : Int),
  w.cell? ((t27.add (Int.toNat t25 * 3)).add 2) = some (.int .i64 t28_2) ∧
  (∃ u, (w.alloc (.cells ⟨[(.bool false), (.int .i64 0), (.int .i64 0)]⟩ 34)).cell? ⟨w.heap.size, 0, none⟩ = some u) ∧
  (w.alloc (.cells ⟨[(.bool false), (.int .i64 0), (.int .i64 0)]⟩ 34)).frozen? ⟨w.heap.size, 0, none⟩ = false ∧
  (∃ u, ((w.alloc (.cells ⟨[(.bool false), (.int .i64 0), (.int .i64 0)]⟩ 34)).setCell ⟨w.heap.size, 0, none⟩ (.bool t28_0)).cell? ⟨w.heap.size, 1, none⟩ = some u) ∧
  ((w.alloc (.cells ⟨[(.bool false), (.int .i64 0), (.int .i64 0)]⟩ 34)).setCell ⟨w.heap.size, 0, none⟩ (.bool t28_0)).frozen? ⟨w.heap.size, 1, none⟩ = false ∧
  (∃ u, (((w.alloc (.cells ⟨[(.bool false), (.int .i64 0), (.int .i64 0)]⟩ 34)).setCell ⟨w.heap.size, 0, none⟩ (.bool t28_0)).setCell ⟨w.heap.size, 1, none⟩ (.int .i64 t28_1)).cell? ⟨w.heap.size, 2, none⟩ = some u) ∧
  (((w.alloc (.cells ⟨[(.bool false), (.int .i64 0), (.int .i64 0)]⟩ 34)).setCell ⟨w.heap.size, 0, none⟩ (.bool t28_0)).setCell ⟨w.heap.size, 1, none⟩ (.int .i64 t28_1)).frozen? ⟨w.heap.size, 2, none⟩ = false ∧
  ∃ (t30 : Bool),
  ((((w.alloc (.cells ⟨[(.bool false), (.int .i64 0), (.int .i64 0)]⟩ 34)).setCell ⟨w.heap.size, 0, none⟩ (.bool t28_0)).setCell ⟨w.heap.size, 1, none⟩ (.int .i64 t28_1)).setCell ⟨w.heap.size, 2, none⟩ (.int .i64 t28_2)).cell? ⟨w.heap.size, 0, none⟩ = some (.bool t30) ∧
  cond t30 (
    Calls Try.prog 13 ⟨[(.pointer t4)]⟩ ((((w.alloc (.cells ⟨[(.bool false), (.int .i64 0), (.int .i64 0)]⟩ 34)).setCell ⟨w.heap.size, 0, none⟩ (.bool t28_0)).setCell ⟨w.heap.size, 1, none⟩ (.int .i64 t28_1)).setCell ⟨w.heap.size, 2, none⟩ (.int .i64 t28_2)) fun e w_ =>
      ∃ (t33_0_0 : Int) (t33_0_1 : Int) (t33_1 : Bool),
      e = .returned (.tuple ⟨[(.agg ⟨[(.int .i64 t33_0_0), (.int .i64 t33_0_1)]⟩), (.bool t33_1)]⟩) ∧
      (∃ u, (w_.alloc (.cells ⟨[(.int .i64 0), (.int .i64 0)]⟩ 32)).cell? ⟨w_.heap.size, 0, none⟩ = some u) ∧
      (w_.alloc (.cells ⟨[(.int .i64 0), (.int .i64 0)]⟩ 32)).frozen? ⟨w_.heap.size, 0, none⟩ = false ∧
      (∃ u, ((w_.alloc (.cells ⟨[(.int .i64 0), (.int .i64 0)]⟩ 32)).setCell ⟨w_.heap.size, 0, none⟩ (.int .i64 t33_0_0)).cell? ⟨w_.heap.size, 1, none⟩ = some u) ∧
      ((w_.alloc (.cells ⟨[(.int .i64 0), (.int .i64 0)]⟩ 32)).setCell ⟨w_.heap.size, 0, none⟩ (.int .i64 t33_0_0)).frozen? ⟨w_.heap.size, 1, none⟩ = false ∧
      Calls Try.prog 14 ⟨[(.pointer (some t5))]⟩ (((w_.alloc (.cells ⟨[(.int .i64 0), (.int .i64 0)]⟩ 32)).setCell ⟨w_.heap.size, 0, none⟩ (.int .i64 t33_0_0)).setCell ⟨w_.heap.size, 1, none⟩ (.int .i64 t33_0_1)) fun e w__1 =>
        ∃ (t38_0_0 : Int) (t38_0_1 : Int) (t38_1 : Bool),
        e = .returned (.tuple ⟨[(.agg ⟨[(.int .i64 t38_0_0), (.int .i64 t38_0_1)]⟩), (.bool t38_1)]⟩) ∧
        (∃ u, (w__1.alloc (.cells ⟨[(.int .i64 0), (.int .i64 0)]⟩ 32)).cell? ⟨w__1.heap.size, 0, none⟩ = some u) ∧
        (w__1.alloc (.cells ⟨[(.int .i64 0), (.int .i64 0)]⟩ 32)).frozen? ⟨w__1.heap.size, 0, none⟩ = false ∧
        (∃ u, ((w__1.alloc (.cells ⟨[(.int .i64 0), (.int .i64 0)]⟩ 32)).setCell ⟨w__1.heap.size, 0, none⟩ (.int .i64 t38_0_0)).cell? ⟨w__1.heap.size, 1, none⟩ = some u) ∧
        ((w__1.alloc (.cells ⟨[(.int .i64 0), (.int .i64 0)]⟩ 32)).setCell ⟨w__1.heap.size, 0, none⟩ (.int .i64 t38_0_0)).frozen? ⟨w__1.heap.size, 1, none⟩ = false ∧
        ∃ (t41_0 : Int),
        (((w__1.alloc (.cells ⟨[(.int .i64 0), (.int .i64 0)]⟩ 32)).setCell ⟨w__1.heap.size, 0, none⟩ (.int .i64 t38_0_0)).setCell ⟨w__1.heap.size, 1, none⟩ (.int .i64 t38_0_1)).cell? ⟨w_.heap.size, 0, none⟩ = some (.int .i64 t41_0) ∧
        ∃ (t41_1 : Int),
        (((w__1.alloc (.cells ⟨[(.int .i64 0), (.int .i64 0)]⟩ 32)).setCell ⟨w__1.heap.size, 0, none⟩ (.int .i64 t38_0_0)).setCell ⟨w__1.heap.size, 1, none⟩ (.int .i64 t38_0_1)).cell? ⟨w_.heap.size, 1, none⟩ = some (.int .i64 t41_1) ∧
        ∃ (t42_0 : Int),
        (((w__1.alloc (.cells ⟨[(.int .i64 0), (.int .i64 0)]⟩ 32)).setCell ⟨w__1.heap.size, 0, none⟩ (.int .i64 t38_0_0)).setCell ⟨w__1.heap.size, 1, none⟩ (.int .i64 t38_0_1)).cell? ⟨w__1.heap.size, 0, none⟩ = some (.int .i64 t42_0) ∧
        ∃ (t42_1 : Int),
        (((w__1.alloc (.cells ⟨[(.int .i64 0), (.int .i64 0)]⟩ 32)).setCell ⟨w__1.heap.size, 0, none⟩ (.int .i64 t38_0_0)).setCell ⟨w__1.heap.size, 1, none⟩ (.int .i64 t38_0_1)).cell? ⟨w__1.heap.size, 1, none⟩ = some (.int .i64 t42_1) ∧
        ∃ (t43 : Bool) (w__2 : World),
        (do eqGuard .neq 32 (.tmp 41) (.tmp 42) (.agg ⟨[(.int .i64 t41_0), (.int .i64 t41_1)]⟩) (.agg ⟨[(.int .i64 t42_0), (.int .i64 t42_1)]⟩); binOp .neq 32 (.agg ⟨[(.int .i64 t41_0), (.int .i64 t41_1)]⟩) (.agg ⟨[(.int .i64 t42_0), (.int .i64 t42_1)]⟩)).run Try.prog (((w__1.alloc (.cells ⟨[(.int .i64 0), (.int .i64 0)]⟩ 32)).setCell ⟨w__1.heap.size, 0, none⟩ (.int .i64 t38_0_0)).setCell ⟨w__1.heap.size, 1, none⟩ (.int .i64 t38_0_1)) = .ok (.bool t43) w__2 ∧
        cond t43 (
          S3_k3 t3 t4 t5 t23_a t23_l t23_c t24 t25 true w__2 R B1
        ) (
          S3_k3 t3 t4 t5 t23_a t23_l t23_c t24 t25 (!(t33_1 == t38_1)) w__2 R B1
        )
  ) (
    ∃ (t51_0 : Int),
    ((((w.alloc (.cells ⟨[(.bool false), (.int .i64 0), (.int .i64 0)]⟩ 34)).setCell ⟨w.heap.size, 0, none⟩ (.bool t28_0)).setCell ⟨w.heap.size, 1, none⟩ (.int .i64 t28_1)).setCell ⟨w.heap.size, 2, none⟩ (.int .i64 t28_2)).cell? ⟨w.heap.size, 1, none⟩ = some (.int .i64 t51_0) ∧
    ∃ (t51_1 : Int),
    ((((w.alloc (.cells ⟨[(.bool false), (.int .i64 0), (.int .i64 0)]⟩ 34)).setCell ⟨w.heap.size, 0, none⟩ (.bool t28_0)).setCell ⟨w.heap.size, 1, none⟩ (.int .i64 t28_1)).setCell ⟨w.heap.size, 2, none⟩ (.int .i64 t28_2)).cell? ⟨w.heap.size, 2, none⟩ = some (.int .i64 t51_1) ∧
    Calls Try.prog 15 ⟨[(.pointer t4), (.agg ⟨[(.int .i64 t51_0), (.int .i64 t51_1)]⟩)]⟩ ((((w.alloc (.cells ⟨[(.bool false), (.int .i64 0), (.int .i64 0)]⟩ 34)).setCell ⟨w.heap.size, 0, none⟩ (.bool t28_0)).setCell ⟨w.heap.size, 1, none⟩ (.int .i64 t28_1)).setCell ⟨w.heap.size, 2, none⟩ (.int .i64 t28_2)) fun e w__3 =>
      e = .returned (.tuple ⟨[]⟩) ∧
      ∃ (t55_0 : Int),
      w__3.cell? ⟨w.heap.size, 1, none⟩ = some (.int .i64 t55_0) ∧
      ∃ (t55_1 : Int),
      w__3.cell? ⟨w.heap.size, 2, none⟩ = some (.int .i64 t55_1) ∧
      Calls Try.prog 16 ⟨[(.pointer (some t5)), (.agg ⟨[(.int .i64 t55_0), (.int .i64 t55_1)]⟩)]⟩ w__3 fun e w__4 =>
        e = .returned (.tuple ⟨[]⟩) ∧
        S3_k4 t3 t4 t5 t23_a t23_l t23_c t24 t25 w__4 R B1
  )

def S3_L1 (t3 : Bool) (t4 : Option Addr) (t5 : Addr) (t23_a : Option Addr) (t23_l : Nat) (t23_c : Nat) (t24 : Int) (t25 : Int) (w : World) (R : Value → World → Prop) (B1 : (Int) × Unit → World → Prop) : Prop :=
  cond (decide ((t25 : Int) < t24)) (
    S3_k2 t3 t4 t5 t23_a t23_l t23_c t24 t25 w R B1
  ) (
    R (.bool t3) w
  )

def S3_k0 (l_a : Option Addr) (l_l : Nat) (l_c : Nat) (t3 : Bool) (t4 : Option Addr) (w : World) (R : Value → World → Prop) : Prop :=
  Calls Try.prog 12 ⟨[(.slice l_a l_l l_c)]⟩ (w.alloc (.cells ⟨[(.slice none 0 0)]⟩ 29)) fun e w_ =>
    ∃ (t23_a : Option Addr) (t23_l : Nat) (t23_c : Nat),
    e = .returned (.slice t23_a t23_l t23_c) ∧
    ∃ (I : (Int) × Unit → World → Prop) (μ : (Int) × Unit → World → Nat),
    I (0, ()) w_ ∧
    ∀ (J : Env) (s : (Int) × Unit) (w' : World), I s w' →
      S3_L1 t3 t4 ⟨w.heap.size, 0, none⟩ t23_a t23_l t23_c ((t23_l : Nat) : Int) s.1 w' R (fun s' w'' => I s' w'' ∧ μ s' w'' < μ s w')

def S3 (l_a : Option Addr) (l_l : Nat) (l_c : Nat) (w : World) (R : Value → World → Prop) : Prop :=
  Calls Try.prog 10 ⟨[]⟩ w fun e w_ =>
    ∃ (t16 : Bool),
    e = .returned (.bool t16) ∧
    Calls Try.prog 11 ⟨[]⟩ w_ fun e w__1 =>
      ∃ (t17 : Option Addr),
      e = .returned (.pointer t17) ∧
      cond (Option.isNone t17) (
        R (.bool false) w__1
      ) (
        S3_k0 l_a l_l l_c t16 t17 w__1 R
      )

theorem S3_eq (l_a : Option Addr) (l_l : Nat) (l_c : Nat) (w : World) (R : Value → World → Prop) : Eng.R Try.prog ⟨cal, S3_nx⟩ 87 S3_ann [] (Try.f3.body.getD .skip) (bodyQ Try.prog #[.tmp 2] R) (argE [(.slice l_a l_l l_c)]) w = S3 l_a l_l l_c w R := by kernel_rfl
/-- A call of 'carfax/carfaxlaw04.HeapPlays', by its condition. -/
theorem S3_calls {l_a : Option Addr} {l_l : Nat} {l_c : Nat} {w : World} {R : Value → World → Prop} (hS : S3 l_a l_l l_c w R) : Ret Try.prog 3 [(.slice l_a l_l l_c)] w R :=
  R_calls (C := ⟨cal, S3_nx⟩) cal_ok follows Try.func3 (c := Try.f3.body.getD .skip) (res := #[.tmp 2]) (n := 87) (by kernel_rfl) (by kernel_rfl) (by kernel_rfl) (by kernel_rfl) ((S3_eq l_a l_l l_c w R).mpr hS)

def S4_ann (p : List Nat) : Option LA := match p with
  | [0, 1, 0, 1, 1, 1, 1, 1, 1, 1, 1] => some ⟨[3, 4, 5, 7, 21, 22], [(6, .one (.int .i64)), (8, .one .bool), (23, .one (.int .i64))]⟩
  | [0, 1, 0, 1, 1, 1, 1, 1, 1, 0, 0, 1, 1, 0, 0, 1, 0, 1, 1, 1, 1, 1, 1, 1, 1] => some ⟨[3, 4, 5, 6, 7, 11, 21, 22, 23, 69], []⟩
  | _ => none

def S4_nx (t : Nat) : Option (TypeId × TypeId) := match t with
  | 69 => some (32, 3)
  | _ => none

def S4_k9 (t3 : Bool) (t4 : Option Addr) (t5 : Option Nat) (t6 : Int) (t7 : Addr) (t11 : Addr) (t21_a : Option Addr) (t21_l : Nat) (t21_c : Nat) (t22 : Int) (t23 : Int) (w : World) (R : Value → World → Prop) (B1 : (Int) × (Bool) × (Int) × Unit → World → Prop) : Prop :=
  ∃ (t85_0 : Int),
  w.drew.cell? t11 = some (.int .i64 t85_0) ∧
  ∃ (t85_1 : Int),
  w.drew.cell? (t11.add 1) = some (.int .i64 t85_1) ∧
  (
    ∃ (t86 : Int) (w_ : World),
    (Instr.lookup 40 (.map t5) (.agg ⟨[(.int .i64 t85_0), (.int .i64 t85_1)]⟩) false).run Try.prog w.drew = .ok (.int .i64 t86) w_ ∧
    ∃ (t88_v : Int) (t88_n : Int) (w__1 : World),
    (Instr.mapEntry 40 (.map t5) (.agg ⟨[(.int .i64 t85_0), (.int .i64 t85_1)]⟩)).run Try.prog w_ = .ok (.tuple ⟨[(.int .i64 t88_v), (.int .i64 t88_n)]⟩) w__1 ∧
    ∃ (w__2 : World),
    (Instr.entryStore 40 (.map t5) (.int .i64 t88_n) (.int .i64 (IntKind.i64.wrap (t86 - 1)))).run Try.prog w__1 = .ok () w__2 ∧
    ∃ (t92_0 : Int),
    w__2.cell? t11 = some (.int .i64 t92_0) ∧
    ∃ (t92_1 : Int),
    w__2.cell? (t11.add 1) = some (.int .i64 t92_1) ∧
    (∃ u, w__2.cell? t7 = some u) ∧
    w__2.frozen? t7 = false ∧
    (∃ u, (w__2.setCell t7 (.int .i64 t92_0)).cell? (t7.add 1) = some u) ∧
    (w__2.setCell t7 (.int .i64 t92_0)).frozen? (t7.add 1) = false ∧
    B1 ((IntKind.i64.wrap (t6 - 1)), true, (IntKind.i64.wrap (t23 + 1)), ()) ((w__2.setCell t7 (.int .i64 t92_0)).setCell (t7.add 1) (.int .i64 t92_1))
  ) ∧
  (
    ∃ (t88_v_1 : Int) (t88_n_1 : Int) (w__3 : World),
    (Instr.mapEntry 40 (.map t5) (.agg ⟨[(.int .i64 t85_0), (.int .i64 t85_1)]⟩)).run Try.prog w.drew = .ok (.tuple ⟨[(.int .i64 t88_v_1), (.int .i64 t88_n_1)]⟩) w__3 ∧
    ∃ (t86_1 : Int) (w__4 : World),
    (Instr.lookup 40 (.map t5) (.agg ⟨[(.int .i64 t85_0), (.int .i64 t85_1)]⟩) false).run Try.prog w__3 = .ok (.int .i64 t86_1) w__4 ∧
    ∃ (w__5 : World),
    (Instr.entryStore 40 (.map t5) (.int .i64 t88_n_1) (.int .i64 (IntKind.i64.wrap (t86_1 - 1)))).run Try.prog w__4 = .ok () w__5 ∧
    ∃ (t92_0_1 : Int),
    w__5.cell? t11 = some (.int .i64 t92_0_1) ∧
    ∃ (t92_1_1 : Int),
    w__5.cell? (t11.add 1) = some (.int .i64 t92_1_1) ∧
    (∃ u, w__5.cell? t7 = some u) ∧
    w__5.frozen? t7 = false ∧
    (∃ u, (w__5.setCell t7 (.int .i64 t92_0_1)).cell? (t7.add 1) = some u) ∧
    (w__5.setCell t7 (.int .i64 t92_0_1)).frozen? (t7.add 1) = false ∧
    B1 ((IntKind.i64.wrap (t6 - 1)), true, (IntKind.i64.wrap (t23 + 1)), ()) ((w__5.setCell t7 (.int .i64 t92_0_1)).setCell (t7.add 1) (.int .i64 t92_1_1))
  )

def S4_k11 (t3 : Bool) (t4 : Option Addr) (t5 : Option Nat) (t6 : Int) (t7 : Addr) (t11 : Addr) (t21_a : Option Addr) (t21_l : Nat) (t21_c : Nat) (t22 : Int) (t23 : Int) (t69 : Addr) (t83 : Bool) (w : World) (R : Value → World → Prop) (B1 : (Int) × (Bool) × (Int) × Unit → World → Prop) (B2 : Unit → World → Prop) : Prop :=
  cond t83 (
    R (.bool false) w
  ) (
    B2 (()) w
  )

def S4_k10 (t3 : Bool) (t4 : Option Addr) (t5 : Option Nat) (t6 : Int) (t7 : Addr) (t11 : Addr) (t21_a : Option Addr) (t21_l : Nat) (t21_c : Nat) (t22 : Int) (t23 : Int) (t69 : Addr) (w : World) (R : Value → World → Prop) (B1 : (Int) × (Bool) × (Int) × Unit → World → Prop) (B2 : Unit → World → Prop) : Prop :=
  ∃ (t72_k_0 : Int) (t72_k_1 : Int) (t72_v : Int) (w_ : World),
  (Instr.entry (.pointer (some t69))).run Try.prog w = .ok (.tuple ⟨[(.agg ⟨[(.int .i64 t72_k_0), (.int .i64 t72_k_1)]⟩), (.int .i64 t72_v)]⟩) w_ ∧
  (∃ u, (w_.alloc (.cells ⟨[(.int .i64 0), (.int .i64 0)]⟩ 32)).cell? ⟨w_.heap.size, 0, none⟩ = some u) ∧
  (w_.alloc (.cells ⟨[(.int .i64 0), (.int .i64 0)]⟩ 32)).frozen? ⟨w_.heap.size, 0, none⟩ = false ∧
  (∃ u, ((w_.alloc (.cells ⟨[(.int .i64 0), (.int .i64 0)]⟩ 32)).setCell ⟨w_.heap.size, 0, none⟩ (.int .i64 t72_k_0)).cell? ⟨w_.heap.size, 1, none⟩ = some u) ∧
  ((w_.alloc (.cells ⟨[(.int .i64 0), (.int .i64 0)]⟩ 32)).setCell ⟨w_.heap.size, 0, none⟩ (.int .i64 t72_k_0)).frozen? ⟨w_.heap.size, 1, none⟩ = false ∧
  cond (decide ((0 : Int) < t72_v)) (
    ∃ (t79 : Int),
    (((w_.alloc (.cells ⟨[(.int .i64 0), (.int .i64 0)]⟩ 32)).setCell ⟨w_.heap.size, 0, none⟩ (.int .i64 t72_k_0)).setCell ⟨w_.heap.size, 1, none⟩ (.int .i64 t72_k_1)).cell? ⟨w_.heap.size, 0, none⟩ = some (.int .i64 t79) ∧
    ∃ (t81 : Int),
    (((w_.alloc (.cells ⟨[(.int .i64 0), (.int .i64 0)]⟩ 32)).setCell ⟨w_.heap.size, 0, none⟩ (.int .i64 t72_k_0)).setCell ⟨w_.heap.size, 1, none⟩ (.int .i64 t72_k_1)).cell? t11 = some (.int .i64 t81) ∧
    S4_k11 t3 t4 t5 t6 t7 t11 t21_a t21_l t21_c t22 t23 t69 (decide ((t79 : Int) < t81)) (((w_.alloc (.cells ⟨[(.int .i64 0), (.int .i64 0)]⟩ 32)).setCell ⟨w_.heap.size, 0, none⟩ (.int .i64 t72_k_0)).setCell ⟨w_.heap.size, 1, none⟩ (.int .i64 t72_k_1)) R B1 B2
  ) (
    S4_k11 t3 t4 t5 t6 t7 t11 t21_a t21_l t21_c t22 t23 t69 false (((w_.alloc (.cells ⟨[(.int .i64 0), (.int .i64 0)]⟩ 32)).setCell ⟨w_.heap.size, 0, none⟩ (.int .i64 t72_k_0)).setCell ⟨w_.heap.size, 1, none⟩ (.int .i64 t72_k_1)) R B1 B2
  )

def S4_L8 (t3 : Bool) (t4 : Option Addr) (t5 : Option Nat) (t6 : Int) (t7 : Addr) (t11 : Addr) (t21_a : Option Addr) (t21_l : Nat) (t21_c : Nat) (t22 : Int) (t23 : Int) (t69 : Addr) (w : World) (R : Value → World → Prop) (B1 : (Int) × (Bool) × (Int) × Unit → World → Prop) (B2 : Unit → World → Prop) : Prop :=
  (
    ∃ (w_ : World),
    (Instr.next (.pointer (some t69)) false 0).run Try.prog w = .ok (.tuple ⟨[(.bool false)]⟩) w_ ∧
    S4_k9 t3 t4 t5 t6 t7 t11 t21_a t21_l t21_c t22 t23 w_ R B1
  ) ∨ (
    ∃ (t70_k_0 : Int) (t70_k_1 : Int) (t70_v : Int) (w__1 : World),
    (Instr.next (.pointer (some t69)) false 0).run Try.prog w = .ok (.tuple ⟨[(.bool true), (.agg ⟨[(.int .i64 t70_k_0), (.int .i64 t70_k_1)]⟩), (.int .i64 t70_v)]⟩) w__1 ∧
    S4_k10 t3 t4 t5 t6 t7 t11 t21_a t21_l t21_c t22 t23 t69 w__1 R B1 B2
  )

def S4_k7 (t3 : Bool) (t4 : Option Addr) (t5 : Option Nat) (t6 : Int) (t7 : Addr) (t11 : Addr) (t21_a : Option Addr) (t21_l : Nat) (t21_c : Nat) (t22 : Int) (t23 : Int) (w : World) (R : Value → World → Prop) (B1 : (Int) × (Bool) × (Int) × Unit → World → Prop) : Prop :=
  ∃ (w_ : World),
  (Instr.range 40 (.map t5)).run Try.prog w = .ok (.pointer (some ⟨w.heap.size, 0, none⟩)) w_ ∧
  ∃ (I : Unit → World → Prop) (μ : Unit → World → Nat),
  I (()) w_ ∧
  ∀ (J : Env) (s : Unit) (w' : World), I s w' →
    S4_L8 t3 t4 t5 t6 t7 t11 t21_a t21_l t21_c t22 t23 ⟨w.heap.size, 0, none⟩ w' R B1 (fun s' w'' => I s' w'' ∧ μ s' w'' < μ s w')

def S4_k6 (t3 : Bool) (t4 : Option Addr) (t5 : Option Nat) (t6 : Int) (t7 : Addr) (t11 : Addr) (t21_a : Option Addr) (t21_l : Nat) (t21_c : Nat) (t22 : Int) (t23 : Int) (t67 : Bool) (w : World) (R : Value → World → Prop) (B1 : (Int) × (Bool) × (Int) × Unit → World → Prop) : Prop :=
  cond t67 (
    R (.bool false) w
  ) (
    S4_k7 t3 t4 t5 t6 t7 t11 t21_a t21_l t21_c t22 t23 w R B1
  )

def S4_k5 (t3 : Bool) (t4 : Option Addr) (t5 : Option Nat) (t6 : Int) (t7 : Addr) (t8 : Bool) (t11 : Addr) (t21_a : Option Addr) (t21_l : Nat) (t21_c : Nat) (t22 : Int) (t23 : Int) (w : World) (R : Value → World → Prop) (B1 : (Int) × (Bool) × (Int) × Unit → World → Prop) : Prop :=
  ∃ (t55_0 : Int),
  w.cell? t11 = some (.int .i64 t55_0) ∧
  ∃ (t55_1 : Int),
  w.cell? (t11.add 1) = some (.int .i64 t55_1) ∧
  ∃ (t56 : Int) (w_ : World),
  (Instr.lookup 40 (.map t5) (.agg ⟨[(.int .i64 t55_0), (.int .i64 t55_1)]⟩) false).run Try.prog w = .ok (.int .i64 t56) w_ ∧
  cond (decide ((t56 : Int) < 1)) (
    S4_k6 t3 t4 t5 t6 t7 t11 t21_a t21_l t21_c t22 t23 true w_ R B1
  ) (
    cond t8 (
      ∃ (t62 : Int),
      w_.cell? t11 = some (.int .i64 t62) ∧
      ∃ (t64 : Int),
      w_.cell? t7 = some (.int .i64 t64) ∧
      S4_k6 t3 t4 t5 t6 t7 t11 t21_a t21_l t21_c t22 t23 (decide ((t62 : Int) < t64)) w_ R B1
    ) (
      S4_k6 t3 t4 t5 t6 t7 t11 t21_a t21_l t21_c t22 t23 false w_ R B1
    )
  )

def S4_k4 (t3 : Bool) (t4 : Option Addr) (t5 : Option Nat) (t6 : Int) (t7 : Addr) (t8 : Bool) (t11 : Addr) (t12 : Bool) (t21_a : Option Addr) (t21_l : Nat) (t21_c : Nat) (t22 : Int) (t23 : Int) (w : World) (R : Value → World → Prop) (B1 : (Int) × (Bool) × (Int) × Unit → World → Prop) : Prop :=
  cond (!t12) (
    B1 (t6, t8, (IntKind.i64.wrap (t23 + 1)), ()) w
  ) (
    S4_k5 t3 t4 t5 t6 t7 t8 t11 t21_a t21_l t21_c t22 t23 w R B1
  )

def S4_k3 (t3 : Bool) (t4 : Option Addr) (t5 : Option Nat) (t6 : Int) (t7 : Addr) (t8 : Bool) (t21_a : Option Addr) (t21_l : Nat) (t21_c : Nat) (t22 : Int) (t23 : Int) (w : World) (R : Value → World → Prop) (B1 : (Int) × (Bool) × (Int) × Unit → World → Prop) : Prop :=
  Calls Try.prog 13 ⟨[(.pointer t4)]⟩ w fun e w_ =>
    ∃ (t45_0_0 : Int) (t45_0_1 : Int) (t45_1 : Bool),
    e = .returned (.tuple ⟨[(.agg ⟨[(.int .i64 t45_0_0), (.int .i64 t45_0_1)]⟩), (.bool t45_1)]⟩) ∧
    (∃ u, (w_.alloc (.cells ⟨[(.int .i64 0), (.int .i64 0)]⟩ 32)).cell? ⟨w_.heap.size, 0, none⟩ = some u) ∧
    (w_.alloc (.cells ⟨[(.int .i64 0), (.int .i64 0)]⟩ 32)).frozen? ⟨w_.heap.size, 0, none⟩ = false ∧
    (∃ u, ((w_.alloc (.cells ⟨[(.int .i64 0), (.int .i64 0)]⟩ 32)).setCell ⟨w_.heap.size, 0, none⟩ (.int .i64 t45_0_0)).cell? ⟨w_.heap.size, 1, none⟩ = some u) ∧
    ((w_.alloc (.cells ⟨[(.int .i64 0), (.int .i64 0)]⟩ 32)).setCell ⟨w_.heap.size, 0, none⟩ (.int .i64 t45_0_0)).frozen? ⟨w_.heap.size, 1, none⟩ = false ∧
    cond (!(t45_1 == (decide ((0 : Int) < t6)))) (
      R (.bool false) (((w_.alloc (.cells ⟨[(.int .i64 0), (.int .i64 0)]⟩ 32)).setCell ⟨w_.heap.size, 0, none⟩ (.int .i64 t45_0_0)).setCell ⟨w_.heap.size, 1, none⟩ (.int .i64 t45_0_1))
    ) (
      S4_k4 t3 t4 t5 t6 t7 t8 ⟨w_.heap.size, 0, none⟩ t45_1 t21_a t21_l t21_c t22 t23 (((w_.alloc (.cells ⟨[(.int .i64 0), (.int .i64 0)]⟩ 32)).setCell ⟨w_.heap.size, 0, none⟩ (.int .i64 t45_0_0)).setCell ⟨w_.heap.size, 1, none⟩ (.int .i64 t45_0_1)) R B1
    )

def S4_k2 (t3 : Bool) (t4 : Option Addr) (t5 : Option Nat) (t6 : Int) (t7 : Addr) (t8 : Bool) (t21_a : Option Addr) (t21_l : Nat) (t21_c : Nat) (t22 : Int) (t23 : Int) (w : World) (R : Value → World → Prop) (B1 : (Int) × (Bool) × (Int) × Unit → World → Prop) : Prop :=
  ∃ (t25 : Addr),
  t21_a = some t25 ∧
  0 ≤ (t23 : Int) ∧
  (t23 : Int) < ((t21_l : Nat) : Int) ∧
  ∃ (t26_0 : Bool),
  w.cell? (t25.add (Int.toNat t23 * 3)) = some (.bool t26_0) ∧
  ∃ (t26_1 : Int),
  w.cell? ((t25.add (Int.toNat t23 * 3)).add 1) = some (.int .i64 t26_1) ∧
  ∃ (t26_2 : Int),
  w.cell? ((t25.add (Int.toNat t23 * 3)).add 2) = some (.int .i64 t26_2) ∧
  (∃ u, (w.alloc (.cells ⟨[(.bool false), (.int .i64 0), (.int .i64 0)]⟩ 34)).cell? ⟨w.heap.size, 0, none⟩ = some u) ∧
  (w.alloc (.cells ⟨[(.bool false), (.int .i64 0), (.int .i64 0)]⟩ 34)).frozen? ⟨w.heap.size, 0, none⟩ = false ∧
  (∃ u, ((w.alloc (.cells ⟨[(.bool false), (.int .i64 0), (.int .i64 0)]⟩ 34)).setCell ⟨w.heap.size, 0, none⟩ (.bool t26_0)).cell? ⟨w.heap.size, 1, none⟩ = some u) ∧
  ((w.alloc (.cells ⟨[(.bool false), (.int .i64 0), (.int .i64 0)]⟩ 34)).setCell ⟨w.heap.size, 0, none⟩ (.bool t26_0)).frozen? ⟨w.heap.size, 1, none⟩ = false ∧
  (∃ u, (((w.alloc (.cells ⟨[(.bool false), (.int .i64 0), (.int .i64 0)]⟩ 34)).setCell ⟨w.heap.size, 0, none⟩ (.bool t26_0)).setCell ⟨w.heap.size, 1, none⟩ (.int .i64 t26_1)).cell? ⟨w.heap.size, 2, none⟩ = some u) ∧
  (((w.alloc (.cells ⟨[(.bool false), (.int .i64 0), (.int .i64 0)]⟩ 34)).setCell ⟨w.heap.size, 0, none⟩ (.bool t26_0)).setCell ⟨w.heap.size, 1, none⟩ (.int .i64 t26_1)).frozen? ⟨w.heap.size, 2, none⟩ = false ∧
  ∃ (t28 : Bool),
  ((((w.alloc (.cells ⟨[(.bool false), (.int .i64 0), (.int .i64 0)]⟩ 34)).setCell ⟨w.heap.size, 0, none⟩ (.bool t26_0)).setCell ⟨w.heap.size, 1, none⟩ (.int .i64 t26_1)).setCell ⟨w.heap.size, 2, none⟩ (.int .i64 t26_2)).cell? ⟨w.heap.size, 0, none⟩ = some (.bool t28) ∧
  cond (!t28) (
    ∃ (t32_0 : Int),
    ((((w.alloc (.cells ⟨[(.bool false), (.int .i64 0), (.int .i64 0)]⟩ 34)).setCell ⟨w.heap.size, 0, none⟩ (.bool t26_0)).setCell ⟨w.heap.size, 1, none⟩ (.int .i64 t26_1)).setCell ⟨w.heap.size, 2, none⟩ (.int .i64 t26_2)).cell? ⟨w.heap.size, 1, none⟩ = some (.int .i64 t32_0) ∧
    ∃ (t32_1 : Int),
    ((((w.alloc (.cells ⟨[(.bool false), (.int .i64 0), (.int .i64 0)]⟩ 34)).setCell ⟨w.heap.size, 0, none⟩ (.bool t26_0)).setCell ⟨w.heap.size, 1, none⟩ (.int .i64 t26_1)).setCell ⟨w.heap.size, 2, none⟩ (.int .i64 t26_2)).cell? ⟨w.heap.size, 2, none⟩ = some (.int .i64 t32_1) ∧
    Calls Try.prog 15 ⟨[(.pointer t4), (.agg ⟨[(.int .i64 t32_0), (.int .i64 t32_1)]⟩)]⟩ ((((w.alloc (.cells ⟨[(.bool false), (.int .i64 0), (.int .i64 0)]⟩ 34)).setCell ⟨w.heap.size, 0, none⟩ (.bool t26_0)).setCell ⟨w.heap.size, 1, none⟩ (.int .i64 t26_1)).setCell ⟨w.heap.size, 2, none⟩ (.int .i64 t26_2)) fun e w_ =>
      e = .returned (.tuple ⟨[]⟩) ∧
      ∃ (t36_0 : Int),
      w_.drew.cell? ⟨w.heap.size, 1, none⟩ = some (.int .i64 t36_0) ∧
      ∃ (t36_1 : Int),
      w_.drew.cell? ⟨w.heap.size, 2, none⟩ = some (.int .i64 t36_1) ∧
      (
        ∃ (t37 : Int) (w__1 : World),
        (Instr.lookup 40 (.map t5) (.agg ⟨[(.int .i64 t36_0), (.int .i64 t36_1)]⟩) false).run Try.prog w_.drew = .ok (.int .i64 t37) w__1 ∧
        ∃ (t39_v : Int) (t39_n : Int) (w__2 : World),
        (Instr.mapEntry 40 (.map t5) (.agg ⟨[(.int .i64 t36_0), (.int .i64 t36_1)]⟩)).run Try.prog w__1 = .ok (.tuple ⟨[(.int .i64 t39_v), (.int .i64 t39_n)]⟩) w__2 ∧
        ∃ (w__3 : World),
        (Instr.entryStore 40 (.map t5) (.int .i64 t39_n) (.int .i64 (IntKind.i64.wrap (t37 + 1)))).run Try.prog w__2 = .ok () w__3 ∧
        B1 ((IntKind.i64.wrap (t6 + 1)), false, (IntKind.i64.wrap (t23 + 1)), ()) w__3
      ) ∧
      (
        ∃ (t39_v_1 : Int) (t39_n_1 : Int) (w__4 : World),
        (Instr.mapEntry 40 (.map t5) (.agg ⟨[(.int .i64 t36_0), (.int .i64 t36_1)]⟩)).run Try.prog w_.drew = .ok (.tuple ⟨[(.int .i64 t39_v_1), (.int .i64 t39_n_1)]⟩) w__4 ∧
        ∃ (t37_1 : Int) (w__5 : World),
        (Instr.lookup 40 (.map t5) (.agg ⟨[(.int .i64 t36_0), (.int .i64 t36_1)]⟩) false).run Try.prog w__4 = .ok (.int .i64 t37_1) w__5 ∧
        ∃ (w__6 : World),
        (Instr.entryStore 40 (.map t5) (.int .i64 t39_n_1) (.int .i64 (IntKind.i64.wrap (t37_1 + 1)))).run Try.prog w__5 = .ok () w__6 ∧
        B1 ((IntKind.i64.wrap (t6 + 1)), false, (IntKind.i64.wrap (t23 + 1)), ()) w__6
      )
  ) (
    S4_k3 t3 t4 t5 t6 t7 t8 t21_a t21_l t21_c t22 t23 ((((w.alloc (.cells ⟨[(.bool false), (.int .i64 0), (.int .i64 0)]⟩ 34)).setCell ⟨w.heap.size, 0, none⟩ (.bool t26_0)).setCell ⟨w.heap.size, 1, none⟩ (.int .i64 t26_1)).setCell ⟨w.heap.size, 2, none⟩ (.int .i64 t26_2)) R B1
  )

def S4_k12 (t3 : Bool) (t4 : Option Addr) (t6 : Int) (w : World) (R : Value → World → Prop) : Prop :=
  cond t3 (
    Calls Try.prog 19 ⟨[(.pointer t4)]⟩ w fun e w_ =>
      ∃ (t97 : Int),
      e = .returned (.int .i64 t97) ∧
      R (.bool (decide ((t97 : Int) = t6))) w_
  ) (
    R (.bool false) w
  )

def S4_L1 (t3 : Bool) (t4 : Option Addr) (t5 : Option Nat) (t6 : Int) (t7 : Addr) (t8 : Bool) (t21_a : Option Addr) (t21_l : Nat) (t21_c : Nat) (t22 : Int) (t23 : Int) (w : World) (R : Value → World → Prop) (B1 : (Int) × (Bool) × (Int) × Unit → World → Prop) : Prop :=
  cond (decide ((t23 : Int) < t22)) (
    S4_k2 t3 t4 t5 t6 t7 t8 t21_a t21_l t21_c t22 t23 w R B1
  ) (
    S4_k12 t3 t4 t6 w R
  )

def S4_k0 (l_a : Option Addr) (l_l : Nat) (l_c : Nat) (t3 : Bool) (t4 : Option Addr) (w : World) (R : Value → World → Prop) : Prop :=
  Calls Try.prog 12 ⟨[(.slice l_a l_l l_c)]⟩ ((w.alloc (.map #[] 0)).alloc (.cells ⟨[(.int .i64 0), (.int .i64 0)]⟩ 32)) fun e w_ =>
    ∃ (t21_a : Option Addr) (t21_l : Nat) (t21_c : Nat),
    e = .returned (.slice t21_a t21_l t21_c) ∧
    ∃ (I : (Int) × (Bool) × (Int) × Unit → World → Prop) (μ : (Int) × (Bool) × (Int) × Unit → World → Nat),
    I (0, false, 0, ()) w_ ∧
    ∀ (J : Env) (s : (Int) × (Bool) × (Int) × Unit) (w' : World), I s w' →
      S4_L1 t3 t4 (some w.heap.size) s.1 ⟨(w.alloc (.map #[] 0)).heap.size, 0, none⟩ s.2.1 t21_a t21_l t21_c ((t21_l : Nat) : Int) s.2.2.1 w' R (fun s' w'' => I s' w'' ∧ μ s' w'' < μ s w')

def S4 (l_a : Option Addr) (l_l : Nat) (l_c : Nat) (w : World) (R : Value → World → Prop) : Prop :=
  Calls Try.prog 10 ⟨[]⟩ w fun e w_ =>
    ∃ (t15 : Bool),
    e = .returned (.bool t15) ∧
    Calls Try.prog 11 ⟨[]⟩ w_ fun e w__1 =>
      ∃ (t16 : Option Addr),
      e = .returned (.pointer t16) ∧
      cond (Option.isNone t16) (
        R (.bool false) w__1
      ) (
        S4_k0 l_a l_l l_c t15 t16 w__1 R
      )

theorem S4_eq (l_a : Option Addr) (l_l : Nat) (l_c : Nat) (w : World) (R : Value → World → Prop) : Eng.R Try.prog ⟨cal, S4_nx⟩ 101 S4_ann [] (Try.f4.body.getD .skip) (bodyQ Try.prog #[.tmp 2] R) (argE [(.slice l_a l_l l_c)]) w = S4 l_a l_l l_c w R := by kernel_rfl
/-- A call of 'carfax/carfaxlaw04.HeapOut', by its condition. -/
theorem S4_calls {l_a : Option Addr} {l_l : Nat} {l_c : Nat} {w : World} {R : Value → World → Prop} (hS : S4 l_a l_l l_c w R) : Ret Try.prog 4 [(.slice l_a l_l l_c)] w R :=
  R_calls (C := ⟨cal, S4_nx⟩) cal_ok follows Try.func4 (c := Try.f4.body.getD .skip) (res := #[.tmp 2]) (n := 101) (by kernel_rfl) (by kernel_rfl) (by kernel_rfl) (by kernel_rfl) ((S4_eq l_a l_l l_c w R).mpr hS)

def S5_ann (p : List Nat) : Option LA := match p with
  | [0, 1, 0, 1, 1, 1, 1, 1, 1] => some ⟨[3, 4, 5, 21, 22], [(6, .one (.int .i64)), (23, .one (.int .i64))]⟩
  | [0, 1, 1, 1, 1, 1, 0, 0, 1, 1, 0, 0, 1, 0, 1, 1, 1, 1, 1, 1] => some ⟨[3, 4, 5, 6, 11, 12, 21, 22, 23, 80], []⟩
  | _ => none

def S5_nx (t : Nat) : Option (TypeId × TypeId) := match t with
  | 80 => some (3, 3)
  | _ => none

def S5_k8 (t3 : Bool) (t4 : Option Addr) (t5 : Option Nat) (t6 : Int) (t11 : Addr) (t12 : Bool) (t21_a : Option Addr) (t21_l : Nat) (t21_c : Nat) (t22 : Int) (t23 : Int) (t80 : Addr) (t100 : Bool) (w : World) (R : Value → World → Prop) (B1 : (Int) × (Int) × Unit → World → Prop) (B2 : Unit → World → Prop) : Prop :=
  cond t100 (
    R (.bool false) w
  ) (
    B2 (()) w
  )

def S5_k7 (t3 : Bool) (t4 : Option Addr) (t5 : Option Nat) (t6 : Int) (t11 : Addr) (t12 : Bool) (t21_a : Option Addr) (t21_l : Nat) (t21_c : Nat) (t22 : Int) (t23 : Int) (t80 : Addr) (w : World) (R : Value → World → Prop) (B1 : (Int) × (Int) × Unit → World → Prop) (B2 : Unit → World → Prop) : Prop :=
  ∃ (t83_k : Int) (t83_v : Int) (w_ : World),
  (Instr.entry (.pointer (some t80))).run Try.prog w = .ok (.tuple ⟨[(.int .i64 t83_k), (.int .i64 t83_v)]⟩) w_ ∧
  cond (decide ((t83_v : Int) < 0)) (
    S5_k8 t3 t4 t5 t6 t11 t12 t21_a t21_l t21_c t22 t23 t80 true w_ R B1 B2
  ) (
    cond t12 (
      cond (decide ((0 : Int) < t83_v)) (
        ∃ (t97 : Int),
        w_.cell? t11 = some (.int .i64 t97) ∧
        S5_k8 t3 t4 t5 t6 t11 t12 t21_a t21_l t21_c t22 t23 t80 (decide ((t83_k : Int) < t97)) w_ R B1 B2
      ) (
        S5_k8 t3 t4 t5 t6 t11 t12 t21_a t21_l t21_c t22 t23 t80 false w_ R B1 B2
      )
    ) (
      S5_k8 t3 t4 t5 t6 t11 t12 t21_a t21_l t21_c t22 t23 t80 false w_ R B1 B2
    )
  )

def S5_L6 (t3 : Bool) (t4 : Option Addr) (t5 : Option Nat) (t6 : Int) (t11 : Addr) (t12 : Bool) (t21_a : Option Addr) (t21_l : Nat) (t21_c : Nat) (t22 : Int) (t23 : Int) (t80 : Addr) (w : World) (R : Value → World → Prop) (B1 : (Int) × (Int) × Unit → World → Prop) (B2 : Unit → World → Prop) : Prop :=
  (
    ∃ (w_ : World),
    (Instr.next (.pointer (some t80)) false 0).run Try.prog w = .ok (.tuple ⟨[(.bool false)]⟩) w_ ∧
    B1 (t6, (IntKind.i64.wrap (t23 + 1)), ()) w_
  ) ∨ (
    ∃ (t81_k : Int) (t81_v : Int) (w__1 : World),
    (Instr.next (.pointer (some t80)) false 0).run Try.prog w = .ok (.tuple ⟨[(.bool true), (.int .i64 t81_k), (.int .i64 t81_v)]⟩) w__1 ∧
    S5_k7 t3 t4 t5 t6 t11 t12 t21_a t21_l t21_c t22 t23 t80 w__1 R B1 B2
  )

def S5_k5 (t3 : Bool) (t4 : Option Addr) (t5 : Option Nat) (t6 : Int) (t11 : Addr) (t12 : Bool) (t21_a : Option Addr) (t21_l : Nat) (t21_c : Nat) (t22 : Int) (t23 : Int) (w : World) (R : Value → World → Prop) (B1 : (Int) × (Int) × Unit → World → Prop) : Prop :=
  ∃ (w_ : World),
  (Instr.range 41 (.map t5)).run Try.prog w = .ok (.pointer (some ⟨w.heap.size, 0, none⟩)) w_ ∧
  ∃ (I : Unit → World → Prop) (μ : Unit → World → Nat),
  I (()) w_ ∧
  ∀ (J : Env) (s : Unit) (w' : World), I s w' →
    S5_L6 t3 t4 t5 t6 t11 t12 t21_a t21_l t21_c t22 t23 ⟨w.heap.size, 0, none⟩ w' R B1 (fun s' w'' => I s' w'' ∧ μ s' w'' < μ s w')

def S5_k4 (t3 : Bool) (t4 : Option Addr) (t5 : Option Nat) (t6 : Int) (t11 : Addr) (t12 : Bool) (t21_a : Option Addr) (t21_l : Nat) (t21_c : Nat) (t22 : Int) (t23 : Int) (t78 : Bool) (w : World) (R : Value → World → Prop) (B1 : (Int) × (Int) × Unit → World → Prop) : Prop :=
  cond t78 (
    R (.bool false) w
  ) (
    S5_k5 t3 t4 t5 t6 t11 t12 t21_a t21_l t21_c t22 t23 w R B1
  )

def S5_k3 (t3 : Bool) (t4 : Option Addr) (t5 : Option Nat) (t6 : Int) (t21_a : Option Addr) (t21_l : Nat) (t21_c : Nat) (t22 : Int) (t23 : Int) (w : World) (R : Value → World → Prop) (B1 : (Int) × (Int) × Unit → World → Prop) : Prop :=
  Calls Try.prog 17 ⟨[(.pointer t4)]⟩ w fun e w_ =>
    ∃ (t56_0_0 : Int) (t56_0_1 : Int) (t56_1 : Bool),
    e = .returned (.tuple ⟨[(.agg ⟨[(.int .i64 t56_0_0), (.int .i64 t56_0_1)]⟩), (.bool t56_1)]⟩) ∧
    (∃ u, (w_.alloc (.cells ⟨[(.int .i64 0), (.int .i64 0)]⟩ 32)).cell? ⟨w_.heap.size, 0, none⟩ = some u) ∧
    (w_.alloc (.cells ⟨[(.int .i64 0), (.int .i64 0)]⟩ 32)).frozen? ⟨w_.heap.size, 0, none⟩ = false ∧
    (∃ u, ((w_.alloc (.cells ⟨[(.int .i64 0), (.int .i64 0)]⟩ 32)).setCell ⟨w_.heap.size, 0, none⟩ (.int .i64 t56_0_0)).cell? ⟨w_.heap.size, 1, none⟩ = some u) ∧
    ((w_.alloc (.cells ⟨[(.int .i64 0), (.int .i64 0)]⟩ 32)).setCell ⟨w_.heap.size, 0, none⟩ (.int .i64 t56_0_0)).frozen? ⟨w_.heap.size, 1, none⟩ = false ∧
    cond (!(t56_1 == (decide ((0 : Int) < t6)))) (
      S5_k4 t3 t4 t5 t6 ⟨w_.heap.size, 0, none⟩ t56_1 t21_a t21_l t21_c t22 t23 true (((w_.alloc (.cells ⟨[(.int .i64 0), (.int .i64 0)]⟩ 32)).setCell ⟨w_.heap.size, 0, none⟩ (.int .i64 t56_0_0)).setCell ⟨w_.heap.size, 1, none⟩ (.int .i64 t56_0_1)) R B1
    ) (
      Calls Try.prog 19 ⟨[(.pointer t4)]⟩ (((w_.alloc (.cells ⟨[(.int .i64 0), (.int .i64 0)]⟩ 32)).setCell ⟨w_.heap.size, 0, none⟩ (.int .i64 t56_0_0)).setCell ⟨w_.heap.size, 1, none⟩ (.int .i64 t56_0_1)) fun e w__1 =>
        ∃ (t65 : Int),
        e = .returned (.int .i64 t65) ∧
        cond (!decide ((t65 : Int) = t6)) (
          S5_k4 t3 t4 t5 t6 ⟨w_.heap.size, 0, none⟩ t56_1 t21_a t21_l t21_c t22 t23 true w__1 R B1
        ) (
          cond t56_1 (
            ∃ (t74 : Int),
            w__1.cell? ⟨w_.heap.size, 0, none⟩ = some (.int .i64 t74) ∧
            ∃ (t75 : Int) (w__2 : World),
            (Instr.lookup 41 (.map t5) (.int .i64 t74) false).run Try.prog w__1 = .ok (.int .i64 t75) w__2 ∧
            S5_k4 t3 t4 t5 t6 ⟨w_.heap.size, 0, none⟩ t56_1 t21_a t21_l t21_c t22 t23 (decide ((t75 : Int) < 1)) w__2 R B1
          ) (
            S5_k4 t3 t4 t5 t6 ⟨w_.heap.size, 0, none⟩ t56_1 t21_a t21_l t21_c t22 t23 false w__1 R B1
          )
        )
    )

def S5_k2 (t3 : Bool) (t4 : Option Addr) (t5 : Option Nat) (t6 : Int) (t21_a : Option Addr) (t21_l : Nat) (t21_c : Nat) (t22 : Int) (t23 : Int) (w : World) (R : Value → World → Prop) (B1 : (Int) × (Int) × Unit → World → Prop) : Prop :=
  ∃ (t25 : Addr),
  t21_a = some t25 ∧
  0 ≤ (t23 : Int) ∧
  (t23 : Int) < ((t21_l : Nat) : Int) ∧
  ∃ (t26_0 : Bool),
  w.cell? (t25.add (Int.toNat t23 * 3)) = some (.bool t26_0) ∧
  ∃ (t26_1 : Int),
  w.cell? ((t25.add (Int.toNat t23 * 3)).add 1) = some (.int .i64 t26_1) ∧
  ∃ (t26_2 : Int),
  w.cell? ((t25.add (Int.toNat t23 * 3)).add 2) = some (.int .i64 t26_2) ∧
  (∃ u, (w.alloc (.cells ⟨[(.bool false), (.int .i64 0), (.int .i64 0)]⟩ 34)).cell? ⟨w.heap.size, 0, none⟩ = some u) ∧
  (w.alloc (.cells ⟨[(.bool false), (.int .i64 0), (.int .i64 0)]⟩ 34)).frozen? ⟨w.heap.size, 0, none⟩ = false ∧
  (∃ u, ((w.alloc (.cells ⟨[(.bool false), (.int .i64 0), (.int .i64 0)]⟩ 34)).setCell ⟨w.heap.size, 0, none⟩ (.bool t26_0)).cell? ⟨w.heap.size, 1, none⟩ = some u) ∧
  ((w.alloc (.cells ⟨[(.bool false), (.int .i64 0), (.int .i64 0)]⟩ 34)).setCell ⟨w.heap.size, 0, none⟩ (.bool t26_0)).frozen? ⟨w.heap.size, 1, none⟩ = false ∧
  (∃ u, (((w.alloc (.cells ⟨[(.bool false), (.int .i64 0), (.int .i64 0)]⟩ 34)).setCell ⟨w.heap.size, 0, none⟩ (.bool t26_0)).setCell ⟨w.heap.size, 1, none⟩ (.int .i64 t26_1)).cell? ⟨w.heap.size, 2, none⟩ = some u) ∧
  (((w.alloc (.cells ⟨[(.bool false), (.int .i64 0), (.int .i64 0)]⟩ 34)).setCell ⟨w.heap.size, 0, none⟩ (.bool t26_0)).setCell ⟨w.heap.size, 1, none⟩ (.int .i64 t26_1)).frozen? ⟨w.heap.size, 2, none⟩ = false ∧
  ∃ (t28 : Bool),
  ((((w.alloc (.cells ⟨[(.bool false), (.int .i64 0), (.int .i64 0)]⟩ 34)).setCell ⟨w.heap.size, 0, none⟩ (.bool t26_0)).setCell ⟨w.heap.size, 1, none⟩ (.int .i64 t26_1)).setCell ⟨w.heap.size, 2, none⟩ (.int .i64 t26_2)).cell? ⟨w.heap.size, 0, none⟩ = some (.bool t28) ∧
  cond t28 (
    Calls Try.prog 13 ⟨[(.pointer t4)]⟩ ((((w.alloc (.cells ⟨[(.bool false), (.int .i64 0), (.int .i64 0)]⟩ 34)).setCell ⟨w.heap.size, 0, none⟩ (.bool t26_0)).setCell ⟨w.heap.size, 1, none⟩ (.int .i64 t26_1)).setCell ⟨w.heap.size, 2, none⟩ (.int .i64 t26_2)) fun e w_ =>
      ∃ (t31_0_0 : Int) (t31_0_1 : Int) (t31_1 : Bool),
      e = .returned (.tuple ⟨[(.agg ⟨[(.int .i64 t31_0_0), (.int .i64 t31_0_1)]⟩), (.bool t31_1)]⟩) ∧
      (∃ u, (w_.alloc (.cells ⟨[(.int .i64 0), (.int .i64 0)]⟩ 32)).cell? ⟨w_.heap.size, 0, none⟩ = some u) ∧
      (w_.alloc (.cells ⟨[(.int .i64 0), (.int .i64 0)]⟩ 32)).frozen? ⟨w_.heap.size, 0, none⟩ = false ∧
      (∃ u, ((w_.alloc (.cells ⟨[(.int .i64 0), (.int .i64 0)]⟩ 32)).setCell ⟨w_.heap.size, 0, none⟩ (.int .i64 t31_0_0)).cell? ⟨w_.heap.size, 1, none⟩ = some u) ∧
      ((w_.alloc (.cells ⟨[(.int .i64 0), (.int .i64 0)]⟩ 32)).setCell ⟨w_.heap.size, 0, none⟩ (.int .i64 t31_0_0)).frozen? ⟨w_.heap.size, 1, none⟩ = false ∧
      cond t31_1 (
        ∃ (t37 : Int),
        (((w_.alloc (.cells ⟨[(.int .i64 0), (.int .i64 0)]⟩ 32)).setCell ⟨w_.heap.size, 0, none⟩ (.int .i64 t31_0_0)).setCell ⟨w_.heap.size, 1, none⟩ (.int .i64 t31_0_1)).cell? ⟨w_.heap.size, 0, none⟩ = some (.int .i64 t37) ∧
        ∃ (t38 : Int) (w__1 : World),
        (Instr.lookup 41 (.map t5) (.int .i64 t37) false).run Try.prog (((w_.alloc (.cells ⟨[(.int .i64 0), (.int .i64 0)]⟩ 32)).setCell ⟨w_.heap.size, 0, none⟩ (.int .i64 t31_0_0)).setCell ⟨w_.heap.size, 1, none⟩ (.int .i64 t31_0_1)) = .ok (.int .i64 t38) w__1 ∧
        ∃ (w__2 : World),
        (Instr.mapUpdate 41 (.map t5) (.int .i64 t37) (.int .i64 (IntKind.i64.wrap (t38 - 1)))).run Try.prog w__1 = .ok () w__2 ∧
        S5_k3 t3 t4 t5 (IntKind.i64.wrap (t6 - 1)) t21_a t21_l t21_c t22 t23 w__2 R B1
      ) (
        S5_k3 t3 t4 t5 t6 t21_a t21_l t21_c t22 t23 (((w_.alloc (.cells ⟨[(.int .i64 0), (.int .i64 0)]⟩ 32)).setCell ⟨w_.heap.size, 0, none⟩ (.int .i64 t31_0_0)).setCell ⟨w_.heap.size, 1, none⟩ (.int .i64 t31_0_1)) R B1
      )
  ) (
    ∃ (t44_0 : Int),
    ((((w.alloc (.cells ⟨[(.bool false), (.int .i64 0), (.int .i64 0)]⟩ 34)).setCell ⟨w.heap.size, 0, none⟩ (.bool t26_0)).setCell ⟨w.heap.size, 1, none⟩ (.int .i64 t26_1)).setCell ⟨w.heap.size, 2, none⟩ (.int .i64 t26_2)).cell? ⟨w.heap.size, 1, none⟩ = some (.int .i64 t44_0) ∧
    ∃ (t44_1 : Int),
    ((((w.alloc (.cells ⟨[(.bool false), (.int .i64 0), (.int .i64 0)]⟩ 34)).setCell ⟨w.heap.size, 0, none⟩ (.bool t26_0)).setCell ⟨w.heap.size, 1, none⟩ (.int .i64 t26_1)).setCell ⟨w.heap.size, 2, none⟩ (.int .i64 t26_2)).cell? ⟨w.heap.size, 2, none⟩ = some (.int .i64 t44_1) ∧
    Calls Try.prog 15 ⟨[(.pointer t4), (.agg ⟨[(.int .i64 t44_0), (.int .i64 t44_1)]⟩)]⟩ ((((w.alloc (.cells ⟨[(.bool false), (.int .i64 0), (.int .i64 0)]⟩ 34)).setCell ⟨w.heap.size, 0, none⟩ (.bool t26_0)).setCell ⟨w.heap.size, 1, none⟩ (.int .i64 t26_1)).setCell ⟨w.heap.size, 2, none⟩ (.int .i64 t26_2)) fun e w__3 =>
      e = .returned (.tuple ⟨[]⟩) ∧
      ∃ (t49 : Int),
      w__3.cell? ⟨w.heap.size, 1, none⟩ = some (.int .i64 t49) ∧
      ∃ (t50 : Int) (w__4 : World),
      (Instr.lookup 41 (.map t5) (.int .i64 t49) false).run Try.prog w__3 = .ok (.int .i64 t50) w__4 ∧
      ∃ (w__5 : World),
      (Instr.mapUpdate 41 (.map t5) (.int .i64 t49) (.int .i64 (IntKind.i64.wrap (t50 + 1)))).run Try.prog w__4 = .ok () w__5 ∧
      S5_k3 t3 t4 t5 (IntKind.i64.wrap (t6 + 1)) t21_a t21_l t21_c t22 t23 w__5 R B1
  )

def S5_L1 (t3 : Bool) (t4 : Option Addr) (t5 : Option Nat) (t6 : Int) (t21_a : Option Addr) (t21_l : Nat) (t21_c : Nat) (t22 : Int) (t23 : Int) (w : World) (R : Value → World → Prop) (B1 : (Int) × (Int) × Unit → World → Prop) : Prop :=
  cond (decide ((t23 : Int) < t22)) (
    S5_k2 t3 t4 t5 t6 t21_a t21_l t21_c t22 t23 w R B1
  ) (
    R (.bool t3) w
  )

def S5_k0 (l_a : Option Addr) (l_l : Nat) (l_c : Nat) (t3 : Bool) (t4 : Option Addr) (w : World) (R : Value → World → Prop) : Prop :=
  Calls Try.prog 12 ⟨[(.slice l_a l_l l_c)]⟩ (w.alloc (.map #[] 0)) fun e w_ =>
    ∃ (t21_a : Option Addr) (t21_l : Nat) (t21_c : Nat),
    e = .returned (.slice t21_a t21_l t21_c) ∧
    ∃ (I : (Int) × (Int) × Unit → World → Prop) (μ : (Int) × (Int) × Unit → World → Nat),
    I (0, 0, ()) w_ ∧
    ∀ (J : Env) (s : (Int) × (Int) × Unit) (w' : World), I s w' →
      S5_L1 t3 t4 (some w.heap.size) s.1 t21_a t21_l t21_c ((t21_l : Nat) : Int) s.2.1 w' R (fun s' w'' => I s' w'' ∧ μ s' w'' < μ s w')

def S5 (l_a : Option Addr) (l_l : Nat) (l_c : Nat) (w : World) (R : Value → World → Prop) : Prop :=
  Calls Try.prog 10 ⟨[]⟩ w fun e w_ =>
    ∃ (t15 : Bool),
    e = .returned (.bool t15) ∧
    Calls Try.prog 11 ⟨[]⟩ w_ fun e w__1 =>
      ∃ (t16 : Option Addr),
      e = .returned (.pointer t16) ∧
      cond (Option.isNone t16) (
        R (.bool false) w__1
      ) (
        S5_k0 l_a l_l l_c t15 t16 w__1 R
      )

theorem S5_eq (l_a : Option Addr) (l_l : Nat) (l_c : Nat) (w : World) (R : Value → World → Prop) : Eng.R Try.prog ⟨cal, S5_nx⟩ 103 S5_ann [] (Try.f5.body.getD .skip) (bodyQ Try.prog #[.tmp 2] R) (argE [(.slice l_a l_l l_c)]) w = S5 l_a l_l l_c w R := by kernel_rfl
/-- A call of 'carfax/carfaxlaw04.HeapLeast', by its condition. -/
theorem S5_calls {l_a : Option Addr} {l_l : Nat} {l_c : Nat} {w : World} {R : Value → World → Prop} (hS : S5 l_a l_l l_c w R) : Ret Try.prog 5 [(.slice l_a l_l l_c)] w R :=
  R_calls (C := ⟨cal, S5_nx⟩) cal_ok follows Try.func5 (c := Try.f5.body.getD .skip) (res := #[.tmp 2]) (n := 103) (by kernel_rfl) (by kernel_rfl) (by kernel_rfl) (by kernel_rfl) ((S5_eq l_a l_l l_c w R).mpr hS)

def S6_ann (p : List Nat) : Option LA :=
  none

def S6_nx (t : Nat) : Option (TypeId × TypeId) := none

def S6 (l_a : Option Addr) (l_l : Nat) (l_c : Nat) (w : World) (R : Value → World → Prop) : Prop :=
  0 ≤ ((if 500 < ((l_l : Nat) : Int) then 500 else ((l_l : Nat) : Int)) : Int) ∧
  ((if 500 < ((l_l : Nat) : Int) then 500 else ((l_l : Nat) : Int)) : Int) ≤ ((l_c : Nat) : Int) ∧
  Calls Try.prog 10 ⟨[]⟩ w fun e w_ =>
    ∃ (t9 : Bool),
    e = .returned (.bool t9) ∧
    cond t9 (
      Calls Try.prog 21 ⟨[(.slice (slAddr l_a l_c 0 2) ((Int.toNat (if 500 < ((l_l : Nat) : Int) then 500 else ((l_l : Nat) : Int))) - 0) (l_c - 0))]⟩ w_ fun e w__1 =>
        ∃ (t12_a : Option Addr) (t12_l : Nat) (t12_c : Nat),
        e = .returned (.slice t12_a t12_l t12_c) ∧
        Calls Try.prog 22 ⟨[(.slice (slAddr l_a l_c 0 2) ((Int.toNat (if 500 < ((l_l : Nat) : Int) then 500 else ((l_l : Nat) : Int))) - 0) (l_c - 0))]⟩ w__1 fun e w__2 =>
          ∃ (t14_a : Option Addr) (t14_l : Nat) (t14_c : Nat),
          e = .returned (.slice t14_a t14_l t14_c) ∧
          Calls Try.prog 20 ⟨[(.slice t12_a t12_l t12_c), (.slice t14_a t14_l t14_c)]⟩ w__2 fun e w__3 =>
            ∃ (t15 : Bool),
            e = .returned (.bool t15) ∧
            R (.bool t15) w__3
    ) (
      R (.bool false) w_
    )

theorem S6_eq (l_a : Option Addr) (l_l : Nat) (l_c : Nat) (w : World) (R : Value → World → Prop) : Eng.R Try.prog ⟨cal, S6_nx⟩ 17 S6_ann [] (Try.f6.body.getD .skip) (bodyQ Try.prog #[.tmp 2] R) (argE [(.slice l_a l_l l_c)]) w = S6 l_a l_l l_c w R := by kernel_rfl
/-- A call of 'carfax/carfaxlaw04.HeapSorts', by its condition. -/
theorem S6_calls {l_a : Option Addr} {l_l : Nat} {l_c : Nat} {w : World} {R : Value → World → Prop} (hS : S6 l_a l_l l_c w R) : Ret Try.prog 6 [(.slice l_a l_l l_c)] w R :=
  R_calls (C := ⟨cal, S6_nx⟩) cal_ok follows Try.func6 (c := Try.f6.body.getD .skip) (res := #[.tmp 2]) (n := 17) (by kernel_rfl) (by kernel_rfl) (by kernel_rfl) (by kernel_rfl) ((S6_eq l_a l_l l_c w R).mpr hS)

def S7_ann (p : List Nat) : Option LA := match p with
  | [0, 1, 0, 1, 1, 1] => some ⟨[3, 4, 18], [(19, .one (.int .i64))]⟩
  | [0, 1, 0, 1, 1, 1, 1, 1, 1] => some ⟨[3, 4, 6, 36], [(37, .one (.int .i64))]⟩
  | _ => none

def S7_nx (t : Nat) : Option (TypeId × TypeId) := none

def S7_k1 (t3 : Bool) (t4_a : Option Addr) (t4_l : Nat) (t4_c : Nat) (t18 : Int) (t19 : Int) (w : World) (R : Value → World → Prop) (B1 : (Int) × Unit → World → Prop) : Prop :=
  ∃ (t25 : Addr),
  t4_a = some t25 ∧
  0 ≤ (t19 : Int) ∧
  (t19 : Int) < ((t4_l : Nat) : Int) ∧
  (∃ u, w.cell? ((t25.add (Int.toNat t19 * 2)).add 1) = some u) ∧
  w.frozen? ((t25.add (Int.toNat t19 * 2)).add 1) = false ∧
  B1 ((IntKind.i64.wrap (t19 + 1)), ()) (w.setCell ((t25.add (Int.toNat t19 * 2)).add 1) (.int .i64 t19))

def S7_k8 (t3 : Bool) (t4_a : Option Addr) (t4_l : Nat) (t4_c : Nat) (t6_a : Option Addr) (t6_l : Nat) (t6_c : Nat) (t36 : Int) (t37 : Int) (t103 : Bool) (w : World) (R : Value → World → Prop) (B1 : (Int) × Unit → World → Prop) : Prop :=
  cond t103 (
    R (.bool false) w
  ) (
    B1 ((IntKind.i64.wrap (t37 + 1)), ()) w
  )

def S7_k7 (t3 : Bool) (t4_a : Option Addr) (t4_l : Nat) (t4_c : Nat) (t6_a : Option Addr) (t6_l : Nat) (t6_c : Nat) (t7 : Int) (t8 : Int) (t36 : Int) (t37 : Int) (w : World) (R : Value → World → Prop) (B1 : (Int) × Unit → World → Prop) : Prop :=
  cond (decide ((0 : Int) < t7)) (
    ∃ (t70 : Addr),
    t6_a = some t70 ∧
    0 ≤ ((IntKind.i64.wrap (t7 - 1)) : Int) ∧
    ((IntKind.i64.wrap (t7 - 1)) : Int) < ((t6_l : Nat) : Int) ∧
    ∃ (t75 : Addr),
    t6_a = some t75 ∧
    0 ≤ (t7 : Int) ∧
    (t7 : Int) < ((t6_l : Nat) : Int) ∧
    ∃ (t72 : Int),
    w.drew.cell? (t70.add (Int.toNat (IntKind.i64.wrap (t7 - 1)) * 2)) = some (.int .i64 t72) ∧
    ∃ (t77 : Int),
    w.drew.cell? (t75.add (Int.toNat t7 * 2)) = some (.int .i64 t77) ∧
    cond (decide ((t77 : Int) < t72)) (
      S7_k8 t3 t4_a t4_l t4_c t6_a t6_l t6_c t36 t37 true w.drew R B1
    ) (
      ∃ (t83 : Addr),
      t6_a = some t83 ∧
      0 ≤ ((IntKind.i64.wrap (t7 - 1)) : Int) ∧
      ((IntKind.i64.wrap (t7 - 1)) : Int) < ((t6_l : Nat) : Int) ∧
      ∃ (t88 : Addr),
      t6_a = some t88 ∧
      0 ≤ (t7 : Int) ∧
      (t7 : Int) < ((t6_l : Nat) : Int) ∧
      ∃ (t85 : Int),
      w.drew.cell? (t83.add (Int.toNat (IntKind.i64.wrap (t7 - 1)) * 2)) = some (.int .i64 t85) ∧
      ∃ (t90 : Int),
      w.drew.cell? (t88.add (Int.toNat t7 * 2)) = some (.int .i64 t90) ∧
      cond (decide ((t85 : Int) = t90)) (
        ∃ (t96 : Addr),
        t6_a = some t96 ∧
        0 ≤ ((IntKind.i64.wrap (t7 - 1)) : Int) ∧
        ((IntKind.i64.wrap (t7 - 1)) : Int) < ((t6_l : Nat) : Int) ∧
        ∃ (t98 : Int),
        w.drew.cell? ((t96.add (Int.toNat (IntKind.i64.wrap (t7 - 1)) * 2)).add 1) = some (.int .i64 t98) ∧
        S7_k8 t3 t4_a t4_l t4_c t6_a t6_l t6_c t36 t37 (decide ((t8 : Int) ≤ t98)) w.drew R B1
      ) (
        S7_k8 t3 t4_a t4_l t4_c t6_a t6_l t6_c t36 t37 false w.drew R B1
      )
    )
  ) (
    S7_k8 t3 t4_a t4_l t4_c t6_a t6_l t6_c t36 t37 false w.drew R B1
  )

def S7_k6 (t3 : Bool) (t4_a : Option Addr) (t4_l : Nat) (t4_c : Nat) (t6_a : Option Addr) (t6_l : Nat) (t6_c : Nat) (t7 : Int) (t8 : Int) (t36 : Int) (t37 : Int) (t63 : Bool) (w : World) (R : Value → World → Prop) (B1 : (Int) × Unit → World → Prop) : Prop :=
  cond t63 (
    R (.bool false) w
  ) (
    S7_k7 t3 t4_a t4_l t4_c t6_a t6_l t6_c t7 t8 t36 t37 w R B1
  )

def S7_k5 (t3 : Bool) (t4_a : Option Addr) (t4_l : Nat) (t4_c : Nat) (t6_a : Option Addr) (t6_l : Nat) (t6_c : Nat) (t36 : Int) (t37 : Int) (w : World) (R : Value → World → Prop) (B1 : (Int) × Unit → World → Prop) : Prop :=
  ∃ (t42 : Addr),
  t6_a = some t42 ∧
  0 ≤ (t37 : Int) ∧
  (t37 : Int) < ((t6_l : Nat) : Int) ∧
  ∃ (t44 : Int),
  w.cell? ((t42.add (Int.toNat t37 * 2)).add 1) = some (.int .i64 t44) ∧
  cond (decide ((t44 : Int) < 0)) (
    S7_k6 t3 t4_a t4_l t4_c t6_a t6_l t6_c t37 t44 t36 t37 true w.drew R B1
  ) (
    cond (decide ((((t4_l : Nat) : Int) : Int) ≤ t44)) (
      S7_k6 t3 t4_a t4_l t4_c t6_a t6_l t6_c t37 t44 t36 t37 true w.drew R B1
    ) (
      ∃ (t56 : Addr),
      t4_a = some t56 ∧
      0 ≤ (t44 : Int) ∧
      (t44 : Int) < ((t4_l : Nat) : Int) ∧
      ∃ (t57_0 : Int),
      w.drew.cell? (t56.add (Int.toNat t44 * 2)) = some (.int .i64 t57_0) ∧
      ∃ (t57_1 : Int),
      w.drew.cell? ((t56.add (Int.toNat t44 * 2)).add 1) = some (.int .i64 t57_1) ∧
      ∃ (t60 : Addr),
      t6_a = some t60 ∧
      0 ≤ (t37 : Int) ∧
      (t37 : Int) < ((t6_l : Nat) : Int) ∧
      ∃ (t61_0 : Int),
      w.drew.cell? (t60.add (Int.toNat t37 * 2)) = some (.int .i64 t61_0) ∧
      ∃ (t61_1 : Int),
      w.drew.cell? ((t60.add (Int.toNat t37 * 2)).add 1) = some (.int .i64 t61_1) ∧
      ∃ (t62 : Bool) (w_ : World),
      (do eqGuard .neq 32 (.tmp 57) (.tmp 61) (.agg ⟨[(.int .i64 t57_0), (.int .i64 t57_1)]⟩) (.agg ⟨[(.int .i64 t61_0), (.int .i64 t61_1)]⟩); binOp .neq 32 (.agg ⟨[(.int .i64 t57_0), (.int .i64 t57_1)]⟩) (.agg ⟨[(.int .i64 t61_0), (.int .i64 t61_1)]⟩)).run Try.prog w.drew = .ok (.bool t62) w_ ∧
      S7_k6 t3 t4_a t4_l t4_c t6_a t6_l t6_c t37 t44 t36 t37 t62 w_ R B1
    )
  )

def S7_k9 (t3 : Bool) (t6_a : Option Addr) (t6_l : Nat) (t6_c : Nat) (w : World) (R : Value → World → Prop) : Prop :=
  cond t3 (
    Calls Try.prog 21 ⟨[(.slice t6_a t6_l t6_c)]⟩ w fun e w_ =>
      ∃ (t108_a : Option Addr) (t108_l : Nat) (t108_c : Nat),
      e = .returned (.slice t108_a t108_l t108_c) ∧
      Calls Try.prog 20 ⟨[(.slice t108_a t108_l t108_c), (.slice t6_a t6_l t6_c)]⟩ w_ fun e w__1 =>
        ∃ (t110 : Bool),
        e = .returned (.bool t110) ∧
        R (.bool t110) w__1
  ) (
    R (.bool false) w
  )

def S7_L4 (t3 : Bool) (t4_a : Option Addr) (t4_l : Nat) (t4_c : Nat) (t6_a : Option Addr) (t6_l : Nat) (t6_c : Nat) (t36 : Int) (t37 : Int) (w : World) (R : Value → World → Prop) (B1 : (Int) × Unit → World → Prop) : Prop :=
  cond (decide ((t37 : Int) < t36)) (
    S7_k5 t3 t4_a t4_l t4_c t6_a t6_l t6_c t36 t37 w R B1
  ) (
    S7_k9 t3 t6_a t6_l t6_c w R
  )

def S7_k3 (t3 : Bool) (t4_a : Option Addr) (t4_l : Nat) (t4_c : Nat) (t6_a : Option Addr) (t6_l : Nat) (t6_c : Nat) (w : World) (R : Value → World → Prop) : Prop :=
  ∃ (I : (Int) × Unit → World → Prop) (μ : (Int) × Unit → World → Nat),
  I (0, ()) w ∧
  ∀ (J : Env) (s : (Int) × Unit) (w' : World), I s w' →
    S7_L4 t3 t4_a t4_l t4_c t6_a t6_l t6_c ((t6_l : Nat) : Int) s.1 w' R (fun s' w'' => I s' w'' ∧ μ s' w'' < μ s w')

def S7_k2 (t3 : Bool) (t4_a : Option Addr) (t4_l : Nat) (t4_c : Nat) (w : World) (R : Value → World → Prop) : Prop :=
  Calls Try.prog 21 ⟨[(.slice t4_a t4_l t4_c)]⟩ w fun e w_ =>
    ∃ (t29_a : Option Addr) (t29_l : Nat) (t29_c : Nat),
    e = .returned (.slice t29_a t29_l t29_c) ∧
    cond (!decide ((((t29_l : Nat) : Int) : Int) = ((t4_l : Nat) : Int))) (
      R (.bool false) w_
    ) (
      S7_k3 t3 t4_a t4_l t4_c t29_a t29_l t29_c w_ R
    )

def S7_L0 (t3 : Bool) (t4_a : Option Addr) (t4_l : Nat) (t4_c : Nat) (t18 : Int) (t19 : Int) (w : World) (R : Value → World → Prop) (B1 : (Int) × Unit → World → Prop) : Prop :=
  cond (decide ((t19 : Int) < t18)) (
    S7_k1 t3 t4_a t4_l t4_c t18 t19 w R B1
  ) (
    S7_k2 t3 t4_a t4_l t4_c w R
  )

def S7 (l_a : Option Addr) (l_l : Nat) (l_c : Nat) (w : World) (R : Value → World → Prop) : Prop :=
  Calls Try.prog 10 ⟨[]⟩ w fun e w_ =>
    ∃ (t9 : Bool),
    e = .returned (.bool t9) ∧
    0 ≤ ((if 500 < ((l_l : Nat) : Int) then 500 else ((l_l : Nat) : Int)) : Int) ∧
    ((if 500 < ((l_l : Nat) : Int) then 500 else ((l_l : Nat) : Int)) : Int) ≤ ((l_c : Nat) : Int) ∧
    ∃ (t16_a : Option Addr) (t16_l : Nat) (t16_c : Nat) (w__1 : World),
    (Builtin.append_ #[27, 27] 27 ⟨[(.slice (some ⟨w_.heap.size, 0, none⟩) 0 0), (.slice (slAddr l_a l_c 0 2) ((Int.toNat (if 500 < ((l_l : Nat) : Int) then 500 else ((l_l : Nat) : Int))) - 0) (l_c - 0))]⟩).run Try.prog (w_.alloc (.cells ⟨[]⟩ 32)) = .ok (.slice t16_a t16_l t16_c) w__1 ∧
    ∃ (I : (Int) × Unit → World → Prop) (μ : (Int) × Unit → World → Nat),
    I (0, ()) w__1 ∧
    ∀ (J : Env) (s : (Int) × Unit) (w' : World), I s w' →
      S7_L0 t9 t16_a t16_l t16_c ((t16_l : Nat) : Int) s.1 w' R (fun s' w'' => I s' w'' ∧ μ s' w'' < μ s w')

theorem S7_eq (l_a : Option Addr) (l_l : Nat) (l_c : Nat) (w : World) (R : Value → World → Prop) : Eng.R Try.prog ⟨cal, S7_nx⟩ 112 S7_ann [] (Try.f7.body.getD .skip) (bodyQ Try.prog #[.tmp 2] R) (argE [(.slice l_a l_l l_c)]) w = S7 l_a l_l l_c w R := by kernel_rfl
/-- A call of 'carfax/carfaxlaw04.HeapStays', by its condition. -/
theorem S7_calls {l_a : Option Addr} {l_l : Nat} {l_c : Nat} {w : World} {R : Value → World → Prop} (hS : S7 l_a l_l l_c w R) : Ret Try.prog 7 [(.slice l_a l_l l_c)] w R :=
  R_calls (C := ⟨cal, S7_nx⟩) cal_ok follows Try.func7 (c := Try.f7.body.getD .skip) (res := #[.tmp 2]) (n := 112) (by kernel_rfl) (by kernel_rfl) (by kernel_rfl) (by kernel_rfl) ((S7_eq l_a l_l l_c w R).mpr hS)

def S8_ann (p : List Nat) : Option LA :=
  none

def S8_nx (t : Nat) : Option (TypeId × TypeId) := none

def S8 (x_0 : Int) (x_1 : Int) (w : World) (R : Value → World → Prop) : Prop :=
  Calls Try.prog 10 ⟨[]⟩ (w.alloc (.cells ⟨[(.int .i64 x_0), (.int .i64 x_1)]⟩ 32)) fun e w_ =>
    ∃ (t9 : Bool),
    e = .returned (.bool t9) ∧
    ∃ (t11_0 : Int),
    w_.cell? ⟨w.heap.size, 0, none⟩ = some (.int .i64 t11_0) ∧
    ∃ (t11_1 : Int),
    w_.cell? ⟨w.heap.size, 1, none⟩ = some (.int .i64 t11_1) ∧
    Calls Try.prog 15 ⟨[(.pointer none), (.agg ⟨[(.int .i64 t11_0), (.int .i64 t11_1)]⟩)]⟩ w_ fun e w__1 =>
      e = .returned (.tuple ⟨[]⟩) ∧
      Calls Try.prog 13 ⟨[(.pointer none)]⟩ w__1 fun e w__2 =>
        ∃ (t15_0_0 : Int) (t15_0_1 : Int) (t15_1 : Bool),
        e = .returned (.tuple ⟨[(.agg ⟨[(.int .i64 t15_0_0), (.int .i64 t15_0_1)]⟩), (.bool t15_1)]⟩) ∧
        (∃ u, (w__2.alloc (.cells ⟨[(.int .i64 0), (.int .i64 0)]⟩ 32)).cell? ⟨w__2.heap.size, 0, none⟩ = some u) ∧
        (w__2.alloc (.cells ⟨[(.int .i64 0), (.int .i64 0)]⟩ 32)).frozen? ⟨w__2.heap.size, 0, none⟩ = false ∧
        (∃ u, ((w__2.alloc (.cells ⟨[(.int .i64 0), (.int .i64 0)]⟩ 32)).setCell ⟨w__2.heap.size, 0, none⟩ (.int .i64 t15_0_0)).cell? ⟨w__2.heap.size, 1, none⟩ = some u) ∧
        ((w__2.alloc (.cells ⟨[(.int .i64 0), (.int .i64 0)]⟩ 32)).setCell ⟨w__2.heap.size, 0, none⟩ (.int .i64 t15_0_0)).frozen? ⟨w__2.heap.size, 1, none⟩ = false ∧
        Calls Try.prog 17 ⟨[(.pointer none)]⟩ (((w__2.alloc (.cells ⟨[(.int .i64 0), (.int .i64 0)]⟩ 32)).setCell ⟨w__2.heap.size, 0, none⟩ (.int .i64 t15_0_0)).setCell ⟨w__2.heap.size, 1, none⟩ (.int .i64 t15_0_1)) fun e w__3 =>
          ∃ (t20_0_0 : Int) (t20_0_1 : Int) (t20_1 : Bool),
          e = .returned (.tuple ⟨[(.agg ⟨[(.int .i64 t20_0_0), (.int .i64 t20_0_1)]⟩), (.bool t20_1)]⟩) ∧
          (∃ u, (w__3.alloc (.cells ⟨[(.int .i64 0), (.int .i64 0)]⟩ 32)).cell? ⟨w__3.heap.size, 0, none⟩ = some u) ∧
          (w__3.alloc (.cells ⟨[(.int .i64 0), (.int .i64 0)]⟩ 32)).frozen? ⟨w__3.heap.size, 0, none⟩ = false ∧
          (∃ u, ((w__3.alloc (.cells ⟨[(.int .i64 0), (.int .i64 0)]⟩ 32)).setCell ⟨w__3.heap.size, 0, none⟩ (.int .i64 t20_0_0)).cell? ⟨w__3.heap.size, 1, none⟩ = some u) ∧
          ((w__3.alloc (.cells ⟨[(.int .i64 0), (.int .i64 0)]⟩ 32)).setCell ⟨w__3.heap.size, 0, none⟩ (.int .i64 t20_0_0)).frozen? ⟨w__3.heap.size, 1, none⟩ = false ∧
          cond t9 (
            ∃ (t25_0 : Int),
            (((w__3.alloc (.cells ⟨[(.int .i64 0), (.int .i64 0)]⟩ 32)).setCell ⟨w__3.heap.size, 0, none⟩ (.int .i64 t20_0_0)).setCell ⟨w__3.heap.size, 1, none⟩ (.int .i64 t20_0_1)).cell? ⟨w__2.heap.size, 0, none⟩ = some (.int .i64 t25_0) ∧
            ∃ (t25_1 : Int),
            (((w__3.alloc (.cells ⟨[(.int .i64 0), (.int .i64 0)]⟩ 32)).setCell ⟨w__3.heap.size, 0, none⟩ (.int .i64 t20_0_0)).setCell ⟨w__3.heap.size, 1, none⟩ (.int .i64 t20_0_1)).cell? ⟨w__2.heap.size, 1, none⟩ = some (.int .i64 t25_1) ∧
            ∃ (t27 : Bool) (w__4 : World),
            (do eqGuard .eql 32 (.tmp 25) (.tmp 26) (.agg ⟨[(.int .i64 t25_0), (.int .i64 t25_1)]⟩) (.agg ⟨[(.int .i64 0), (.int .i64 0)]⟩); binOp .eql 32 (.agg ⟨[(.int .i64 t25_0), (.int .i64 t25_1)]⟩) (.agg ⟨[(.int .i64 0), (.int .i64 0)]⟩)).run Try.prog (((w__3.alloc (.cells ⟨[(.int .i64 0), (.int .i64 0)]⟩ 32)).setCell ⟨w__3.heap.size, 0, none⟩ (.int .i64 t20_0_0)).setCell ⟨w__3.heap.size, 1, none⟩ (.int .i64 t20_0_1)) = .ok (.bool t27) w__4 ∧
            cond t27 (
              cond (!t15_1) (
                ∃ (t34_0 : Int),
                w__4.cell? ⟨w__3.heap.size, 0, none⟩ = some (.int .i64 t34_0) ∧
                ∃ (t34_1 : Int),
                w__4.cell? ⟨w__3.heap.size, 1, none⟩ = some (.int .i64 t34_1) ∧
                ∃ (t36 : Bool) (w__5 : World),
                (do eqGuard .eql 32 (.tmp 34) (.tmp 35) (.agg ⟨[(.int .i64 t34_0), (.int .i64 t34_1)]⟩) (.agg ⟨[(.int .i64 0), (.int .i64 0)]⟩); binOp .eql 32 (.agg ⟨[(.int .i64 t34_0), (.int .i64 t34_1)]⟩) (.agg ⟨[(.int .i64 0), (.int .i64 0)]⟩)).run Try.prog w__4 = .ok (.bool t36) w__5 ∧
                cond t36 (
                  cond (!t20_1) (
                    Calls Try.prog 19 ⟨[(.pointer none)]⟩ w__5 fun e w__6 =>
                      ∃ (t44 : Int),
                      e = .returned (.int .i64 t44) ∧
                      cond (decide ((t44 : Int) = 0)) (
                        Calls Try.prog 21 ⟨[(.slice none 0 0)]⟩ w__6 fun e w__7 =>
                          ∃ (t48_a : Option Addr) (t48_l : Nat) (t48_c : Nat),
                          e = .returned (.slice t48_a t48_l t48_c) ∧
                          R (.bool (decide ((((t48_l : Nat) : Int) : Int) = 0))) w__7
                      ) (
                        R (.bool false) w__6
                      )
                  ) (
                    R (.bool false) w__5
                  )
                ) (
                  R (.bool false) w__5
                )
              ) (
                R (.bool false) w__4
              )
            ) (
              R (.bool false) w__4
            )
          ) (
            R (.bool false) (((w__3.alloc (.cells ⟨[(.int .i64 0), (.int .i64 0)]⟩ 32)).setCell ⟨w__3.heap.size, 0, none⟩ (.int .i64 t20_0_0)).setCell ⟨w__3.heap.size, 1, none⟩ (.int .i64 t20_0_1))
          )

theorem S8_eq (x_0 : Int) (x_1 : Int) (w : World) (R : Value → World → Prop) : Eng.R Try.prog ⟨cal, S8_nx⟩ 52 S8_ann [] (Try.f8.body.getD .skip) (bodyQ Try.prog #[.tmp 2] R) (argE [(.agg ⟨[(.int .i64 x_0), (.int .i64 x_1)]⟩)]) w = S8 x_0 x_1 w R := by kernel_rfl
/-- A call of 'carfax/carfaxlaw04.HeapNil', by its condition. -/
theorem S8_calls {x_0 : Int} {x_1 : Int} {w : World} {R : Value → World → Prop} (hS : S8 x_0 x_1 w R) : Ret Try.prog 8 [(.agg ⟨[(.int .i64 x_0), (.int .i64 x_1)]⟩)] w R :=
  R_calls (C := ⟨cal, S8_nx⟩) cal_ok follows Try.func8 (c := Try.f8.body.getD .skip) (res := #[.tmp 2]) (n := 52) (by kernel_rfl) (by kernel_rfl) (by kernel_rfl) (by kernel_rfl) ((S8_eq x_0 x_1 w R).mpr hS)

def S9_ann (p : List Nat) : Option LA := match p with
  | [0, 1, 0, 1, 1, 1, 1, 1, 1, 1] => some ⟨[5, 8, 9, 50], [(51, .one (.int .i64))]⟩
  | _ => none

def S9_nx (t : Nat) : Option (TypeId × TypeId) := none

def S9_k6 (t5 : Bool) (t8_a : Option Addr) (t8_l : Nat) (t8_c : Nat) (t9_a : Option Addr) (t9_l : Nat) (t9_c : Nat) (t50 : Int) (t51 : Int) (t64 : Bool) (w : World) (R : Value → World → Prop) (B1 : (Int) × Unit → World → Prop) : Prop :=
  cond t64 (
    R (.bool false) w
  ) (
    B1 ((IntKind.i64.wrap (t51 + 1)), ()) w
  )

def S9_k5 (t5 : Bool) (t8_a : Option Addr) (t8_l : Nat) (t8_c : Nat) (t9_a : Option Addr) (t9_l : Nat) (t9_c : Nat) (t50 : Int) (t51 : Int) (w : World) (R : Value → World → Prop) (B1 : (Int) × Unit → World → Prop) : Prop :=
  ∃ (t56 : Addr),
  t8_a = some t56 ∧
  0 ≤ (t51 : Int) ∧
  (t51 : Int) < ((t8_l : Nat) : Int) ∧
  ∃ (t61 : Addr),
  t9_a = some t61 ∧
  0 ≤ (t51 : Int) ∧
  (t51 : Int) < ((t9_l : Nat) : Int) ∧
  ∃ (t58 : Int),
  w.drew.cell? (t56.add (Int.toNat t51 * 2)) = some (.int .i64 t58) ∧
  ∃ (t63 : Int),
  w.drew.cell? (t61.add (Int.toNat t51 * 2)) = some (.int .i64 t63) ∧
  S9_k6 t5 t8_a t8_l t8_c t9_a t9_l t9_c t50 t51 (!decide ((t58 : Int) = t63)) w.drew R B1

def S9_L4 (t5 : Bool) (t8_a : Option Addr) (t8_l : Nat) (t8_c : Nat) (t9_a : Option Addr) (t9_l : Nat) (t9_c : Nat) (t50 : Int) (t51 : Int) (w : World) (R : Value → World → Prop) (B1 : (Int) × Unit → World → Prop) : Prop :=
  cond (decide ((t51 : Int) < t50)) (
    S9_k5 t5 t8_a t8_l t8_c t9_a t9_l t9_c t50 t51 w R B1
  ) (
    R (.bool t5) w
  )

def S9_k3 (t5 : Bool) (t8_a : Option Addr) (t8_l : Nat) (t8_c : Nat) (t9_a : Option Addr) (t9_l : Nat) (t9_c : Nat) (w : World) (R : Value → World → Prop) : Prop :=
  ∃ (I : (Int) × Unit → World → Prop) (μ : (Int) × Unit → World → Nat),
  I (0, ()) w ∧
  ∀ (J : Env) (s : (Int) × Unit) (w' : World), I s w' →
    S9_L4 t5 t8_a t8_l t8_c t9_a t9_l t9_c ((t8_l : Nat) : Int) s.1 w' R (fun s' w'' => I s' w'' ∧ μ s' w'' < μ s w')

def S9_k2 (t5 : Bool) (t8_a : Option Addr) (t8_l : Nat) (t8_c : Nat) (t9_a : Option Addr) (t9_l : Nat) (t9_c : Nat) (t48 : Bool) (w : World) (R : Value → World → Prop) : Prop :=
  cond t48 (
    R (.bool false) w
  ) (
    S9_k3 t5 t8_a t8_l t8_c t9_a t9_l t9_c w R
  )

def S9_k1 (t5 : Bool) (t6_a : Option Addr) (t6_l : Nat) (t6_c : Nat) (t8_a : Option Addr) (t8_l : Nat) (t8_c : Nat) (t9_a : Option Addr) (t9_l : Nat) (t9_c : Nat) (w : World) (R : Value → World → Prop) : Prop :=
  cond (!decide ((((t8_l : Nat) : Int) : Int) = ((t6_l : Nat) : Int))) (
    S9_k2 t5 t8_a t8_l t8_c t9_a t9_l t9_c true w R
  ) (
    S9_k2 t5 t8_a t8_l t8_c t9_a t9_l t9_c (!decide ((((t9_l : Nat) : Int) : Int) = ((t6_l : Nat) : Int))) w R
  )

def S9_k0 (t5 : Bool) (t6_a : Option Addr) (t6_l : Nat) (t6_c : Nat) (t7 : Int) (w : World) (R : Value → World → Prop) : Prop :=
  0 ≤ (t7 : Int) ∧
  (t7 : Int) ≤ ((t6_l : Nat) : Int) ∧
  0 ≤ (t7 : Int) ∧
  (t7 : Int) ≤ ((t6_c : Nat) : Int) ∧
  (
    Calls Try.prog 21 ⟨[(.slice t6_a t6_l t6_c)]⟩ w.drew fun e w_ =>
      ∃ (t26_a : Option Addr) (t26_l : Nat) (t26_c : Nat),
      e = .returned (.slice t26_a t26_l t26_c) ∧
      ∃ (t31_a : Option Addr) (t31_l : Nat) (t31_c : Nat) (w__1 : World),
      (Builtin.append_ #[27, 27] 27 ⟨[(.slice (some ⟨w_.heap.size, 0, none⟩) 0 0), (.slice (slAddr t6_a t6_c (Int.toNat t7) 2) (t6_l - (Int.toNat t7)) (t6_c - (Int.toNat t7)))]⟩).run Try.prog (w_.alloc (.cells ⟨[]⟩ 32)) = .ok (.slice t31_a t31_l t31_c) w__1 ∧
      ∃ (t35_a : Option Addr) (t35_l : Nat) (t35_c : Nat) (w__2 : World),
      (Builtin.append_ #[27, 27] 27 ⟨[(.slice t31_a t31_l t31_c), (.slice (slAddr t6_a t6_c 0 2) ((Int.toNat t7) - 0) (t6_c - 0))]⟩).run Try.prog w__1 = .ok (.slice t35_a t35_l t35_c) w__2 ∧
      Calls Try.prog 21 ⟨[(.slice t35_a t35_l t35_c)]⟩ w__2 fun e w__3 =>
        ∃ (t36_a : Option Addr) (t36_l : Nat) (t36_c : Nat),
        e = .returned (.slice t36_a t36_l t36_c) ∧
        S9_k1 t5 t6_a t6_l t6_c t26_a t26_l t26_c t36_a t36_l t36_c w__3 R
  ) ∧
  (
    Calls Try.prog 21 ⟨[(.slice t6_a t6_l t6_c)]⟩ (w.drew.alloc (.cells ⟨[]⟩ 32)) fun e w__4 =>
      ∃ (t26_a_1 : Option Addr) (t26_l_1 : Nat) (t26_c_1 : Nat),
      e = .returned (.slice t26_a_1 t26_l_1 t26_c_1) ∧
      ∃ (t31_a_1 : Option Addr) (t31_l_1 : Nat) (t31_c_1 : Nat) (w__5 : World),
      (Builtin.append_ #[27, 27] 27 ⟨[(.slice (some ⟨w.drew.heap.size, 0, none⟩) 0 0), (.slice (slAddr t6_a t6_c (Int.toNat t7) 2) (t6_l - (Int.toNat t7)) (t6_c - (Int.toNat t7)))]⟩).run Try.prog w__4 = .ok (.slice t31_a_1 t31_l_1 t31_c_1) w__5 ∧
      ∃ (t35_a_1 : Option Addr) (t35_l_1 : Nat) (t35_c_1 : Nat) (w__6 : World),
      (Builtin.append_ #[27, 27] 27 ⟨[(.slice t31_a_1 t31_l_1 t31_c_1), (.slice (slAddr t6_a t6_c 0 2) ((Int.toNat t7) - 0) (t6_c - 0))]⟩).run Try.prog w__5 = .ok (.slice t35_a_1 t35_l_1 t35_c_1) w__6 ∧
      Calls Try.prog 21 ⟨[(.slice t35_a_1 t35_l_1 t35_c_1)]⟩ w__6 fun e w__7 =>
        ∃ (t36_a_1 : Option Addr) (t36_l_1 : Nat) (t36_c_1 : Nat),
        e = .returned (.slice t36_a_1 t36_l_1 t36_c_1) ∧
        S9_k1 t5 t6_a t6_l t6_c t26_a_1 t26_l_1 t26_c_1 t36_a_1 t36_l_1 t36_c_1 w__7 R
  )

def S9 (l_a : Option Addr) (l_l : Nat) (l_c : Nat) (x1 : Int) (w : World) (R : Value → World → Prop) : Prop :=
  Calls Try.prog 10 ⟨[]⟩ w fun e w_ =>
    ∃ (t11 : Bool),
    e = .returned (.bool t11) ∧
    0 ≤ ((if 300 < ((l_l : Nat) : Int) then 300 else ((l_l : Nat) : Int)) : Int) ∧
    ((if 300 < ((l_l : Nat) : Int) then 300 else ((l_l : Nat) : Int)) : Int) ≤ ((l_c : Nat) : Int) ∧
    cond (decide ((0 : Int) < ((((Int.toNat (if 300 < ((l_l : Nat) : Int) then 300 else ((l_l : Nat) : Int))) - 0) : Nat) : Int))) (
      (((((Int.toNat (if 300 < ((l_l : Nat) : Int) then 300 else ((l_l : Nat) : Int))) - 0) : Nat) : Int) : Int) ≠ 0 ∧
      S9_k0 t11 (slAddr l_a l_c 0 2) ((Int.toNat (if 300 < ((l_l : Nat) : Int) then 300 else ((l_l : Nat) : Int))) - 0) (l_c - 0) (Int.tmod (IntKind.i64.wrap x1) ((((Int.toNat (if 300 < ((l_l : Nat) : Int) then 300 else ((l_l : Nat) : Int))) - 0) : Nat) : Int)) w_ R
    ) (
      S9_k0 t11 (slAddr l_a l_c 0 2) ((Int.toNat (if 300 < ((l_l : Nat) : Int) then 300 else ((l_l : Nat) : Int))) - 0) (l_c - 0) 0 w_ R
    )

theorem S9_eq (l_a : Option Addr) (l_l : Nat) (l_c : Nat) (x1 : Int) (w : World) (R : Value → World → Prop) : Eng.R Try.prog ⟨cal, S9_nx⟩ 67 S9_ann [] (Try.f9.body.getD .skip) (bodyQ Try.prog #[.tmp 4] R) (argE [(.slice l_a l_l l_c), (.int .u16 x1)]) w = S9 l_a l_l l_c x1 w R := by kernel_rfl
/-- A call of 'carfax/carfaxlaw04.HeapKeys', by its condition. -/
theorem S9_calls {l_a : Option Addr} {l_l : Nat} {l_c : Nat} {x1 : Int} {w : World} {R : Value → World → Prop} (hS : S9 l_a l_l l_c x1 w R) : Ret Try.prog 9 [(.slice l_a l_l l_c), (.int .u16 x1)] w R :=
  R_calls (C := ⟨cal, S9_nx⟩) cal_ok follows Try.func9 (c := Try.f9.body.getD .skip) (res := #[.tmp 4]) (n := 67) (by kernel_rfl) (by kernel_rfl) (by kernel_rfl) (by kernel_rfl) ((S9_eq l_a l_l l_c x1 w R).mpr hS)

def S10_ann (p : List Nat) : Option LA := match p with
  | [0, 1, 0, 1, 1, 1] => some ⟨[1, 11, 12], [(13, .one (.int .i64))]⟩
  | [0, 1, 0, 1, 1, 1, 1] => some ⟨[1, 28, 29], [(30, .one (.int .i64))]⟩
  | _ => none

def S10_nx (t : Nat) : Option (TypeId × TypeId) := none

def S10_k2 (h : Option Addr) (t11_a : Option Addr) (t11_l : Nat) (t11_c : Nat) (t12 : Int) (t13 : Int) (w : World) (R : Value → World → Prop) (B1 : (Int) × Unit → World → Prop) : Prop :=
  ∃ (t16 : Addr),
  t11_a = some t16 ∧
  0 ≤ (t13 : Int) ∧
  (t13 : Int) < ((t11_l : Nat) : Int) ∧
  ∃ (t17 : Int),
  w.cell? (t16.add (Int.toNat t13 * 1)) = some (.int .i64 t17) ∧
  Calls Try.prog 15 ⟨[(.pointer h), (.agg ⟨[(.int .i64 t17), (.int .i64 t13)]⟩)]⟩ w fun e w_ =>
    e = .returned (.tuple ⟨[]⟩) ∧
    B1 ((IntKind.i64.wrap (t13 + 1)), ()) w_

def S10_k6 (h : Option Addr) (t28_a : Option Addr) (t28_l : Nat) (t28_c : Nat) (t29 : Int) (t30 : Int) (t45 : Bool) (w : World) (R : Value → World → Prop) (B1 : (Int) × Unit → World → Prop) : Prop :=
  cond t45 (
    R (.bool false) w
  ) (
    B1 ((IntKind.i64.wrap (t30 + 1)), ()) w
  )

def S10_k5 (h : Option Addr) (t28_a : Option Addr) (t28_l : Nat) (t28_c : Nat) (t29 : Int) (t30 : Int) (w : World) (R : Value → World → Prop) (B1 : (Int) × Unit → World → Prop) : Prop :=
  ∃ (t32 : Addr),
  t28_a = some t32 ∧
  0 ≤ (t30 : Int) ∧
  (t30 : Int) < ((t28_l : Nat) : Int) ∧
  ∃ (t33_0 : Int),
  w.cell? (t32.add (Int.toNat t30 * 2)) = some (.int .i64 t33_0) ∧
  ∃ (t33_1 : Int),
  w.cell? ((t32.add (Int.toNat t30 * 2)).add 1) = some (.int .i64 t33_1) ∧
  (∃ u, (w.alloc (.cells ⟨[(.int .i64 0), (.int .i64 0)]⟩ 32)).cell? ⟨w.heap.size, 0, none⟩ = some u) ∧
  (w.alloc (.cells ⟨[(.int .i64 0), (.int .i64 0)]⟩ 32)).frozen? ⟨w.heap.size, 0, none⟩ = false ∧
  (∃ u, ((w.alloc (.cells ⟨[(.int .i64 0), (.int .i64 0)]⟩ 32)).setCell ⟨w.heap.size, 0, none⟩ (.int .i64 t33_0)).cell? ⟨w.heap.size, 1, none⟩ = some u) ∧
  ((w.alloc (.cells ⟨[(.int .i64 0), (.int .i64 0)]⟩ 32)).setCell ⟨w.heap.size, 0, none⟩ (.int .i64 t33_0)).frozen? ⟨w.heap.size, 1, none⟩ = false ∧
  Calls Try.prog 13 ⟨[(.pointer h)]⟩ (((w.alloc (.cells ⟨[(.int .i64 0), (.int .i64 0)]⟩ 32)).setCell ⟨w.heap.size, 0, none⟩ (.int .i64 t33_0)).setCell ⟨w.heap.size, 1, none⟩ (.int .i64 t33_1)) fun e w_ =>
    ∃ (t36_0_0 : Int) (t36_0_1 : Int) (t36_1 : Bool),
    e = .returned (.tuple ⟨[(.agg ⟨[(.int .i64 t36_0_0), (.int .i64 t36_0_1)]⟩), (.bool t36_1)]⟩) ∧
    (∃ u, (w_.alloc (.cells ⟨[(.int .i64 0), (.int .i64 0)]⟩ 32)).cell? ⟨w_.heap.size, 0, none⟩ = some u) ∧
    (w_.alloc (.cells ⟨[(.int .i64 0), (.int .i64 0)]⟩ 32)).frozen? ⟨w_.heap.size, 0, none⟩ = false ∧
    (∃ u, ((w_.alloc (.cells ⟨[(.int .i64 0), (.int .i64 0)]⟩ 32)).setCell ⟨w_.heap.size, 0, none⟩ (.int .i64 t36_0_0)).cell? ⟨w_.heap.size, 1, none⟩ = some u) ∧
    ((w_.alloc (.cells ⟨[(.int .i64 0), (.int .i64 0)]⟩ 32)).setCell ⟨w_.heap.size, 0, none⟩ (.int .i64 t36_0_0)).frozen? ⟨w_.heap.size, 1, none⟩ = false ∧
    ∃ (t39_0 : Int),
    (((w_.alloc (.cells ⟨[(.int .i64 0), (.int .i64 0)]⟩ 32)).setCell ⟨w_.heap.size, 0, none⟩ (.int .i64 t36_0_0)).setCell ⟨w_.heap.size, 1, none⟩ (.int .i64 t36_0_1)).cell? ⟨w_.heap.size, 0, none⟩ = some (.int .i64 t39_0) ∧
    ∃ (t39_1 : Int),
    (((w_.alloc (.cells ⟨[(.int .i64 0), (.int .i64 0)]⟩ 32)).setCell ⟨w_.heap.size, 0, none⟩ (.int .i64 t36_0_0)).setCell ⟨w_.heap.size, 1, none⟩ (.int .i64 t36_0_1)).cell? ⟨w_.heap.size, 1, none⟩ = some (.int .i64 t39_1) ∧
    ∃ (t40_0 : Int),
    (((w_.alloc (.cells ⟨[(.int .i64 0), (.int .i64 0)]⟩ 32)).setCell ⟨w_.heap.size, 0, none⟩ (.int .i64 t36_0_0)).setCell ⟨w_.heap.size, 1, none⟩ (.int .i64 t36_0_1)).cell? ⟨w.heap.size, 0, none⟩ = some (.int .i64 t40_0) ∧
    ∃ (t40_1 : Int),
    (((w_.alloc (.cells ⟨[(.int .i64 0), (.int .i64 0)]⟩ 32)).setCell ⟨w_.heap.size, 0, none⟩ (.int .i64 t36_0_0)).setCell ⟨w_.heap.size, 1, none⟩ (.int .i64 t36_0_1)).cell? ⟨w.heap.size, 1, none⟩ = some (.int .i64 t40_1) ∧
    ∃ (t41 : Bool) (w__1 : World),
    (do eqGuard .neq 32 (.tmp 39) (.tmp 40) (.agg ⟨[(.int .i64 t39_0), (.int .i64 t39_1)]⟩) (.agg ⟨[(.int .i64 t40_0), (.int .i64 t40_1)]⟩); binOp .neq 32 (.agg ⟨[(.int .i64 t39_0), (.int .i64 t39_1)]⟩) (.agg ⟨[(.int .i64 t40_0), (.int .i64 t40_1)]⟩)).run Try.prog (((w_.alloc (.cells ⟨[(.int .i64 0), (.int .i64 0)]⟩ 32)).setCell ⟨w_.heap.size, 0, none⟩ (.int .i64 t36_0_0)).setCell ⟨w_.heap.size, 1, none⟩ (.int .i64 t36_0_1)) = .ok (.bool t41) w__1 ∧
    cond t41 (
      S10_k6 h t28_a t28_l t28_c t29 t30 true w__1 R B1
    ) (
      S10_k6 h t28_a t28_l t28_c t29 t30 (!t36_1) w__1 R B1
    )

def S10_k7 (h : Option Addr) (w : World) (R : Value → World → Prop) : Prop :=
  Calls Try.prog 19 ⟨[(.pointer h)]⟩ w fun e w_ =>
    ∃ (t48 : Int),
    e = .returned (.int .i64 t48) ∧
    R (.bool (decide ((t48 : Int) = 0))) w_

def S10_L4 (h : Option Addr) (t28_a : Option Addr) (t28_l : Nat) (t28_c : Nat) (t29 : Int) (t30 : Int) (w : World) (R : Value → World → Prop) (B1 : (Int) × Unit → World → Prop) : Prop :=
  cond (decide ((t30 : Int) < t29)) (
    S10_k5 h t28_a t28_l t28_c t29 t30 w R B1
  ) (
    S10_k7 h w R
  )

def S10_k3 (h : Option Addr) (w : World) (R : Value → World → Prop) : Prop :=
  ∃ (I : (Int) × Unit → World → Prop) (μ : (Int) × Unit → World → Nat),
  I (0, ()) (w.alloc (.cells ⟨[(.int .i64 1), (.int .i64 1), (.int .i64 2), (.int .i64 3), (.int .i64 3), (.int .i64 0), (.int .i64 3), (.int .i64 2)]⟩ 32)) ∧
  ∀ (J : Env) (s : (Int) × Unit) (w' : World), I s w' →
    S10_L4 h (some ⟨w.heap.size, 0, none⟩) 4 4 ((4 : Nat) : Int) s.1 w' R (fun s' w'' => I s' w'' ∧ μ s' w'' < μ s w')

def S10_L1 (h : Option Addr) (t11_a : Option Addr) (t11_l : Nat) (t11_c : Nat) (t12 : Int) (t13 : Int) (w : World) (R : Value → World → Prop) (B1 : (Int) × Unit → World → Prop) : Prop :=
  cond (decide ((t13 : Int) < t12)) (
    S10_k2 h t11_a t11_l t11_c t12 t13 w R B1
  ) (
    S10_k3 h w R
  )

def S10_k0 (h : Option Addr) (w : World) (R : Value → World → Prop) : Prop :=
  ∃ (I : (Int) × Unit → World → Prop) (μ : (Int) × Unit → World → Nat),
  I (0, ()) (w.alloc (.cells ⟨[(.int .i64 3), (.int .i64 1), (.int .i64 3), (.int .i64 2)]⟩ 3)) ∧
  ∀ (J : Env) (s : (Int) × Unit) (w' : World), I s w' →
    S10_L1 h (some ⟨w.heap.size, 0, none⟩) 4 4 ((4 : Nat) : Int) s.1 w' R (fun s' w'' => I s' w'' ∧ μ s' w'' < μ s w')

def S10 (w : World) (R : Value → World → Prop) : Prop :=
  Calls Try.prog 11 ⟨[]⟩ w fun e w_ =>
    ∃ (t8 : Option Addr),
    e = .returned (.pointer t8) ∧
    cond (Option.isNone t8) (
      R (.bool false) w_
    ) (
      S10_k0 t8 w_ R
    )

theorem S10_eq (w : World) (R : Value → World → Prop) : Eng.R Try.prog ⟨cal, S10_nx⟩ 50 S10_ann [] (Try.f10.body.getD .skip) (bodyQ Try.prog #[.tmp 0] R) (argE []) w = S10  w R := by kernel_rfl
/-- A call of 'carfax/carfaxlaw04.shown', by its condition. -/
theorem S10_calls {w : World} {R : Value → World → Prop} (hS : S10  w R) : Ret Try.prog 10 [] w R :=
  R_calls (C := ⟨cal, S10_nx⟩) cal_ok follows Try.func10 (c := Try.f10.body.getD .skip) (res := #[.tmp 0]) (n := 50) (by kernel_rfl) (by kernel_rfl) (by kernel_rfl) (by kernel_rfl) ((S10_eq  w R).mpr hS)

def S11_ann (p : List Nat) : Option LA :=
  none

def S11_nx (t : Nat) : Option (TypeId × TypeId) := none

def S11 (w : World) (R : Value → World → Prop) : Prop :=
  R (.pointer (some ⟨w.heap.size, 0, none⟩)) (w.alloc (.cells ⟨[(.slice none 0 0), (.int .u64 0)]⟩ 52))

theorem S11_eq (w : World) (R : Value → World → Prop) : Eng.R Try.prog ⟨cal, S11_nx⟩ 2 S11_ann [] (Try.f11.body.getD .skip) (bodyQ Try.prog #[.tmp 0] R) (argE []) w = S11  w R := by kernel_rfl
/-- A call of 'carfax/heap.New', by its condition. -/
theorem S11_calls {w : World} {R : Value → World → Prop} (hS : S11  w R) : Ret Try.prog 11 [] w R :=
  R_calls (C := ⟨cal, S11_nx⟩) cal_ok follows Try.func11 (c := Try.f11.body.getD .skip) (res := #[.tmp 0]) (n := 2) (by kernel_rfl) (by kernel_rfl) (by kernel_rfl) (by kernel_rfl) ((S11_eq  w R).mpr hS)

def S12_ann (p : List Nat) : Option LA :=
  none

def S12_nx (t : Nat) : Option (TypeId × TypeId) := none

def S12 (l_a : Option Addr) (l_l : Nat) (l_c : Nat) (w : World) (R : Value → World → Prop) : Prop :=
  0 ≤ ((if 300 < ((l_l : Nat) : Int) then 300 else ((l_l : Nat) : Int)) : Int) ∧
  ((if 300 < ((l_l : Nat) : Int) then 300 else ((l_l : Nat) : Int)) : Int) ≤ ((l_c : Nat) : Int) ∧
  R (.slice (slAddr l_a l_c 0 3) ((Int.toNat (if 300 < ((l_l : Nat) : Int) then 300 else ((l_l : Nat) : Int))) - 0) (l_c - 0)) w

theorem S12_eq (l_a : Option Addr) (l_l : Nat) (l_c : Nat) (w : World) (R : Value → World → Prop) : Eng.R Try.prog ⟨cal, S12_nx⟩ 8 S12_ann [] (Try.f12.body.getD .skip) (bodyQ Try.prog #[.tmp 2] R) (argE [(.slice l_a l_l l_c)]) w = S12 l_a l_l l_c w R := by kernel_rfl
/-- A call of 'carfax/carfaxlaw04.few', by its condition. -/
theorem S12_calls {l_a : Option Addr} {l_l : Nat} {l_c : Nat} {w : World} {R : Value → World → Prop} (hS : S12 l_a l_l l_c w R) : Ret Try.prog 12 [(.slice l_a l_l l_c)] w R :=
  R_calls (C := ⟨cal, S12_nx⟩) cal_ok follows Try.func12 (c := Try.f12.body.getD .skip) (res := #[.tmp 2]) (n := 8) (by kernel_rfl) (by kernel_rfl) (by kernel_rfl) (by kernel_rfl) ((S12_eq l_a l_l l_c w R).mpr hS)

def S13_ann (p : List Nat) : Option LA :=
  none

def S13_nx (t : Nat) : Option (TypeId × TypeId) := none

def S13_k0 (h : Option Addr) (t2 : Addr) (x : Addr) (w : World) (R : Value → World → Prop) : Prop :=
  ∃ (t16 : Addr),
  h = some t16 ∧
  ∃ (t18_a : Option Addr) (t18_l : Nat) (t18_c : Nat),
  w.cell? t16 = some (.slice t18_a t18_l t18_c) ∧
  Calls Try.prog 23 ⟨[(.pointer h), (.int .i64 0), (.int .i64 (IntKind.i64.wrap (((t18_l : Nat) : Int) - 1)))]⟩ w fun e w_ =>
    e = .returned (.tuple ⟨[]⟩) ∧
    ∃ (t26 : Addr),
    h = some t26 ∧
    ∃ (t28_a : Option Addr) (t28_l : Nat) (t28_c : Nat),
    w_.cell? t26 = some (.slice t28_a t28_l t28_c) ∧
    0 ≤ ((IntKind.i64.wrap (((t18_l : Nat) : Int) - 1)) : Int) ∧
    ((IntKind.i64.wrap (((t18_l : Nat) : Int) - 1)) : Int) ≤ ((t28_c : Nat) : Int) ∧
    ∃ (t31 : Addr),
    h = some t31 ∧
    (∃ u, w_.cell? t31 = some u) ∧
    w_.frozen? t31 = false ∧
    Calls Try.prog 24 ⟨[(.pointer h), (.int .i64 0)]⟩ (w_.setCell t31 (.slice (slAddr t28_a t28_c 0 3) ((Int.toNat (IntKind.i64.wrap (((t18_l : Nat) : Int) - 1))) - 0) (t28_c - 0))) fun e w__1 =>
      e = .returned (.tuple ⟨[]⟩) ∧
      ∃ (t35_0 : Int),
      w__1.cell? x = some (.int .i64 t35_0) ∧
      ∃ (t35_1 : Int),
      w__1.cell? (x.add 1) = some (.int .i64 t35_1) ∧
      (∃ u, w__1.cell? t2 = some u) ∧
      w__1.frozen? t2 = false ∧
      (∃ u, (w__1.setCell t2 (.int .i64 t35_0)).cell? (t2.add 1) = some u) ∧
      (w__1.setCell t2 (.int .i64 t35_0)).frozen? (t2.add 1) = false ∧
      ∃ (t2_0 : Int),
      ((w__1.setCell t2 (.int .i64 t35_0)).setCell (t2.add 1) (.int .i64 t35_1)).cell? t2 = some (.int .i64 t2_0) ∧
      ∃ (t2_1 : Int),
      ((w__1.setCell t2 (.int .i64 t35_0)).setCell (t2.add 1) (.int .i64 t35_1)).cell? (t2.add 1) = some (.int .i64 t2_1) ∧
      R (.tuple ⟨[(.agg ⟨[(.int .i64 t2_0), (.int .i64 t2_1)]⟩), (.bool true)]⟩) ((w__1.setCell t2 (.int .i64 t35_0)).setCell (t2.add 1) (.int .i64 t35_1))

def S13 (h : Option Addr) (w : World) (R : Value → World → Prop) : Prop :=
  Calls Try.prog 17 ⟨[(.pointer h)]⟩ (w.alloc (.cells ⟨[(.int .i64 0), (.int .i64 0)]⟩ 32)) fun e w_ =>
    ∃ (t9_0_0 : Int) (t9_0_1 : Int) (t9_1 : Bool),
    e = .returned (.tuple ⟨[(.agg ⟨[(.int .i64 t9_0_0), (.int .i64 t9_0_1)]⟩), (.bool t9_1)]⟩) ∧
    (∃ u, (w_.alloc (.cells ⟨[(.int .i64 0), (.int .i64 0)]⟩ 32)).cell? ⟨w_.heap.size, 0, none⟩ = some u) ∧
    (w_.alloc (.cells ⟨[(.int .i64 0), (.int .i64 0)]⟩ 32)).frozen? ⟨w_.heap.size, 0, none⟩ = false ∧
    (∃ u, ((w_.alloc (.cells ⟨[(.int .i64 0), (.int .i64 0)]⟩ 32)).setCell ⟨w_.heap.size, 0, none⟩ (.int .i64 t9_0_0)).cell? ⟨w_.heap.size, 1, none⟩ = some u) ∧
    ((w_.alloc (.cells ⟨[(.int .i64 0), (.int .i64 0)]⟩ 32)).setCell ⟨w_.heap.size, 0, none⟩ (.int .i64 t9_0_0)).frozen? ⟨w_.heap.size, 1, none⟩ = false ∧
    cond (!t9_1) (
      ∃ (t14_0 : Int),
      (((w_.alloc (.cells ⟨[(.int .i64 0), (.int .i64 0)]⟩ 32)).setCell ⟨w_.heap.size, 0, none⟩ (.int .i64 t9_0_0)).setCell ⟨w_.heap.size, 1, none⟩ (.int .i64 t9_0_1)).cell? ⟨w_.heap.size, 0, none⟩ = some (.int .i64 t14_0) ∧
      ∃ (t14_1 : Int),
      (((w_.alloc (.cells ⟨[(.int .i64 0), (.int .i64 0)]⟩ 32)).setCell ⟨w_.heap.size, 0, none⟩ (.int .i64 t9_0_0)).setCell ⟨w_.heap.size, 1, none⟩ (.int .i64 t9_0_1)).cell? ⟨w_.heap.size, 1, none⟩ = some (.int .i64 t14_1) ∧
      (∃ u, (((w_.alloc (.cells ⟨[(.int .i64 0), (.int .i64 0)]⟩ 32)).setCell ⟨w_.heap.size, 0, none⟩ (.int .i64 t9_0_0)).setCell ⟨w_.heap.size, 1, none⟩ (.int .i64 t9_0_1)).cell? ⟨w.heap.size, 0, none⟩ = some u) ∧
      (((w_.alloc (.cells ⟨[(.int .i64 0), (.int .i64 0)]⟩ 32)).setCell ⟨w_.heap.size, 0, none⟩ (.int .i64 t9_0_0)).setCell ⟨w_.heap.size, 1, none⟩ (.int .i64 t9_0_1)).frozen? ⟨w.heap.size, 0, none⟩ = false ∧
      (∃ u, ((((w_.alloc (.cells ⟨[(.int .i64 0), (.int .i64 0)]⟩ 32)).setCell ⟨w_.heap.size, 0, none⟩ (.int .i64 t9_0_0)).setCell ⟨w_.heap.size, 1, none⟩ (.int .i64 t9_0_1)).setCell ⟨w.heap.size, 0, none⟩ (.int .i64 t14_0)).cell? ⟨w.heap.size, 1, none⟩ = some u) ∧
      ((((w_.alloc (.cells ⟨[(.int .i64 0), (.int .i64 0)]⟩ 32)).setCell ⟨w_.heap.size, 0, none⟩ (.int .i64 t9_0_0)).setCell ⟨w_.heap.size, 1, none⟩ (.int .i64 t9_0_1)).setCell ⟨w.heap.size, 0, none⟩ (.int .i64 t14_0)).frozen? ⟨w.heap.size, 1, none⟩ = false ∧
      ∃ (t2_0 : Int),
      (((((w_.alloc (.cells ⟨[(.int .i64 0), (.int .i64 0)]⟩ 32)).setCell ⟨w_.heap.size, 0, none⟩ (.int .i64 t9_0_0)).setCell ⟨w_.heap.size, 1, none⟩ (.int .i64 t9_0_1)).setCell ⟨w.heap.size, 0, none⟩ (.int .i64 t14_0)).setCell ⟨w.heap.size, 1, none⟩ (.int .i64 t14_1)).cell? ⟨w.heap.size, 0, none⟩ = some (.int .i64 t2_0) ∧
      ∃ (t2_1 : Int),
      (((((w_.alloc (.cells ⟨[(.int .i64 0), (.int .i64 0)]⟩ 32)).setCell ⟨w_.heap.size, 0, none⟩ (.int .i64 t9_0_0)).setCell ⟨w_.heap.size, 1, none⟩ (.int .i64 t9_0_1)).setCell ⟨w.heap.size, 0, none⟩ (.int .i64 t14_0)).setCell ⟨w.heap.size, 1, none⟩ (.int .i64 t14_1)).cell? ⟨w.heap.size, 1, none⟩ = some (.int .i64 t2_1) ∧
      R (.tuple ⟨[(.agg ⟨[(.int .i64 t2_0), (.int .i64 t2_1)]⟩), (.bool false)]⟩) (((((w_.alloc (.cells ⟨[(.int .i64 0), (.int .i64 0)]⟩ 32)).setCell ⟨w_.heap.size, 0, none⟩ (.int .i64 t9_0_0)).setCell ⟨w_.heap.size, 1, none⟩ (.int .i64 t9_0_1)).setCell ⟨w.heap.size, 0, none⟩ (.int .i64 t14_0)).setCell ⟨w.heap.size, 1, none⟩ (.int .i64 t14_1))
    ) (
      S13_k0 h ⟨w.heap.size, 0, none⟩ ⟨w_.heap.size, 0, none⟩ (((w_.alloc (.cells ⟨[(.int .i64 0), (.int .i64 0)]⟩ 32)).setCell ⟨w_.heap.size, 0, none⟩ (.int .i64 t9_0_0)).setCell ⟨w_.heap.size, 1, none⟩ (.int .i64 t9_0_1)) R
    )

theorem S13_eq (h : Option Addr) (w : World) (R : Value → World → Prop) : Eng.R Try.prog ⟨cal, S13_nx⟩ 36 S13_ann [] (Try.f13.body.getD .skip) (bodyQ Try.prog #[.cell 2 32, .tmp 3] R) (argE [(.pointer h)]) w = S13 h w R := by kernel_rfl
/-- A call of '(*carfax/heap.Heap).Pop', by its condition. -/
theorem S13_calls {h : Option Addr} {w : World} {R : Value → World → Prop} (hS : S13 h w R) : Ret Try.prog 13 [(.pointer h)] w R :=
  R_calls (C := ⟨cal, S13_nx⟩) cal_ok follows Try.func13 (c := Try.f13.body.getD .skip) (res := #[.cell 2 32, .tmp 3]) (n := 36) (by kernel_rfl) (by kernel_rfl) (by kernel_rfl) (by kernel_rfl) ((S13_eq h w R).mpr hS)

def S14_ann (p : List Nat) : Option LA :=
  none

def S14_nx (t : Nat) : Option (TypeId × TypeId) := none

def S14_k0 (t2 : Addr) (x : Addr) (is : Bool) (w : World) (R : Value → World → Prop) : Prop :=
  ∃ (t20_0 : Int),
  w.cell? x = some (.int .i64 t20_0) ∧
  ∃ (t20_1 : Int),
  w.cell? (x.add 1) = some (.int .i64 t20_1) ∧
  (∃ u, w.cell? t2 = some u) ∧
  w.frozen? t2 = false ∧
  (∃ u, (w.setCell t2 (.int .i64 t20_0)).cell? (t2.add 1) = some u) ∧
  (w.setCell t2 (.int .i64 t20_0)).frozen? (t2.add 1) = false ∧
  ∃ (t2_0 : Int),
  ((w.setCell t2 (.int .i64 t20_0)).setCell (t2.add 1) (.int .i64 t20_1)).cell? t2 = some (.int .i64 t2_0) ∧
  ∃ (t2_1 : Int),
  ((w.setCell t2 (.int .i64 t20_0)).setCell (t2.add 1) (.int .i64 t20_1)).cell? (t2.add 1) = some (.int .i64 t2_1) ∧
  R (.tuple ⟨[(.agg ⟨[(.int .i64 t2_0), (.int .i64 t2_1)]⟩), (.bool is)]⟩) ((w.setCell t2 (.int .i64 t20_0)).setCell (t2.add 1) (.int .i64 t20_1))

def S14 (h : Option Addr) (w : World) (R : Value → World → Prop) : Prop :=
  Calls Try.prog 18 ⟨[(.pointer h)]⟩ (w.alloc (.cells ⟨[(.int .i64 0), (.int .i64 0)]⟩ 32)) fun e w_ =>
    ∃ (t8_0_0 : Int) (t8_0_1 : Int) (t8_1 : Bool),
    e = .returned (.tuple ⟨[(.agg ⟨[(.int .i64 t8_0_0), (.int .i64 t8_0_1)]⟩), (.bool t8_1)]⟩) ∧
    (∃ u, (w_.alloc (.cells ⟨[(.int .i64 0), (.int .i64 0)]⟩ 32)).cell? ⟨w_.heap.size, 0, none⟩ = some u) ∧
    (w_.alloc (.cells ⟨[(.int .i64 0), (.int .i64 0)]⟩ 32)).frozen? ⟨w_.heap.size, 0, none⟩ = false ∧
    (∃ u, ((w_.alloc (.cells ⟨[(.int .i64 0), (.int .i64 0)]⟩ 32)).setCell ⟨w_.heap.size, 0, none⟩ (.int .i64 t8_0_0)).cell? ⟨w_.heap.size, 1, none⟩ = some u) ∧
    ((w_.alloc (.cells ⟨[(.int .i64 0), (.int .i64 0)]⟩ 32)).setCell ⟨w_.heap.size, 0, none⟩ (.int .i64 t8_0_0)).frozen? ⟨w_.heap.size, 1, none⟩ = false ∧
    cond t8_1 (
      ∃ (t14 : Addr),
      h = some t14 ∧
      ∃ (t16_a : Option Addr) (t16_l : Nat) (t16_c : Nat),
      (((w_.alloc (.cells ⟨[(.int .i64 0), (.int .i64 0)]⟩ 32)).setCell ⟨w_.heap.size, 0, none⟩ (.int .i64 t8_0_0)).setCell ⟨w_.heap.size, 1, none⟩ (.int .i64 t8_0_1)).cell? t14 = some (.slice t16_a t16_l t16_c) ∧
      0 ≤ (1 : Int) ∧
      (1 : Int) ≤ ((t16_l : Nat) : Int) ∧
      ∃ (t18 : Addr),
      h = some t18 ∧
      (∃ u, (((w_.alloc (.cells ⟨[(.int .i64 0), (.int .i64 0)]⟩ 32)).setCell ⟨w_.heap.size, 0, none⟩ (.int .i64 t8_0_0)).setCell ⟨w_.heap.size, 1, none⟩ (.int .i64 t8_0_1)).cell? t18 = some u) ∧
      (((w_.alloc (.cells ⟨[(.int .i64 0), (.int .i64 0)]⟩ 32)).setCell ⟨w_.heap.size, 0, none⟩ (.int .i64 t8_0_0)).setCell ⟨w_.heap.size, 1, none⟩ (.int .i64 t8_0_1)).frozen? t18 = false ∧
      S14_k0 ⟨w.heap.size, 0, none⟩ ⟨w_.heap.size, 0, none⟩ t8_1 ((((w_.alloc (.cells ⟨[(.int .i64 0), (.int .i64 0)]⟩ 32)).setCell ⟨w_.heap.size, 0, none⟩ (.int .i64 t8_0_0)).setCell ⟨w_.heap.size, 1, none⟩ (.int .i64 t8_0_1)).setCell t18 (.slice (slAddr t16_a t16_c (Int.toNat 1) 2) (t16_l - (Int.toNat 1)) (t16_c - (Int.toNat 1)))) R
    ) (
      S14_k0 ⟨w.heap.size, 0, none⟩ ⟨w_.heap.size, 0, none⟩ t8_1 (((w_.alloc (.cells ⟨[(.int .i64 0), (.int .i64 0)]⟩ 32)).setCell ⟨w_.heap.size, 0, none⟩ (.int .i64 t8_0_0)).setCell ⟨w_.heap.size, 1, none⟩ (.int .i64 t8_0_1)) R
    )

theorem S14_eq (h : Option Addr) (w : World) (R : Value → World → Prop) : Eng.R Try.prog ⟨cal, S14_nx⟩ 22 S14_ann [] (Try.f14.body.getD .skip) (bodyQ Try.prog #[.cell 2 32, .tmp 3] R) (argE [(.pointer h)]) w = S14 h w R := by kernel_rfl
/-- A call of '(*carfax/carfaxref04.Heap).Pop', by its condition. -/
theorem S14_calls {h : Option Addr} {w : World} {R : Value → World → Prop} (hS : S14 h w R) : Ret Try.prog 14 [(.pointer h)] w R :=
  R_calls (C := ⟨cal, S14_nx⟩) cal_ok follows Try.func14 (c := Try.f14.body.getD .skip) (res := #[.cell 2 32, .tmp 3]) (n := 22) (by kernel_rfl) (by kernel_rfl) (by kernel_rfl) (by kernel_rfl) ((S14_eq h w R).mpr hS)

def S15_ann (p : List Nat) : Option LA :=
  none

def S15_nx (t : Nat) : Option (TypeId × TypeId) := none

def S15_k1 (h : Option Addr) (w : World) (R : Value → World → Prop) : Prop :=
  ∃ (t22 : Addr),
  h = some t22 ∧
  ∃ (t24 : Int),
  w.cell? (t22.add 1) = some (.int .u64 t24) ∧
  ∃ (t26 : Addr),
  h = some t26 ∧
  (∃ u, w.cell? (t26.add 1) = some u) ∧
  w.frozen? (t26.add 1) = false ∧
  ∃ (t30 : Addr),
  h = some t30 ∧
  ∃ (t32_a : Option Addr) (t32_l : Nat) (t32_c : Nat),
  (w.setCell (t26.add 1) (.int .u64 (IntKind.u64.wrap (t24 + 1)))).cell? t30 = some (.slice t32_a t32_l t32_c) ∧
  Calls Try.prog 25 ⟨[(.pointer h), (.int .i64 (IntKind.i64.wrap (((t32_l : Nat) : Int) - 1)))]⟩ (w.setCell (t26.add 1) (.int .u64 (IntKind.u64.wrap (t24 + 1)))) fun e w_ =>
    e = .returned (.tuple ⟨[]⟩) ∧
    R (.tuple ⟨[]⟩) w_

def S15_k0 (h : Option Addr) (x : Addr) (w : World) (R : Value → World → Prop) : Prop :=
  ∃ (t8 : Addr),
  h = some t8 ∧
  ∃ (t13 : Addr),
  h = some t13 ∧
  ∃ (t11_0 : Int),
  w.drew.cell? x = some (.int .i64 t11_0) ∧
  ∃ (t11_1 : Int),
  w.drew.cell? (x.add 1) = some (.int .i64 t11_1) ∧
  ∃ (t15 : Int),
  w.drew.cell? (t13.add 1) = some (.int .u64 t15) ∧
  ∃ (t10_a : Option Addr) (t10_l : Nat) (t10_c : Nat),
  w.drew.cell? t8 = some (.slice t10_a t10_l t10_c) ∧
  ∃ (t18_a : Option Addr) (t18_l : Nat) (t18_c : Nat) (w_ : World),
  (Builtin.append_ #[49, 49] 49 ⟨[(.slice t10_a t10_l t10_c), (.slice (some ⟨w.drew.heap.size, 0, none⟩) 1 1)]⟩).run Try.prog (w.drew.alloc (.cells ⟨[(.int .i64 t11_0), (.int .i64 t11_1), (.int .u64 t15)]⟩ 56)) = .ok (.slice t18_a t18_l t18_c) w_ ∧
  ∃ (t19 : Addr),
  h = some t19 ∧
  (∃ u, w_.cell? t19 = some u) ∧
  w_.frozen? t19 = false ∧
  S15_k1 h (w_.setCell t19 (.slice t18_a t18_l t18_c)) R

def S15 (h : Option Addr) (x_0 : Int) (x_1 : Int) (w : World) (R : Value → World → Prop) : Prop :=
  cond (Option.isNone h) (
    R (.tuple ⟨[]⟩) (w.alloc (.cells ⟨[(.int .i64 x_0), (.int .i64 x_1)]⟩ 32))
  ) (
    S15_k0 h ⟨w.heap.size, 0, none⟩ (w.alloc (.cells ⟨[(.int .i64 x_0), (.int .i64 x_1)]⟩ 32)) R
  )

theorem S15_eq (h : Option Addr) (x_0 : Int) (x_1 : Int) (w : World) (R : Value → World → Prop) : Eng.R Try.prog ⟨cal, S15_nx⟩ 36 S15_ann [] (Try.f15.body.getD .skip) (bodyQ Try.prog #[] R) (argE [(.pointer h), (.agg ⟨[(.int .i64 x_0), (.int .i64 x_1)]⟩)]) w = S15 h x_0 x_1 w R := by kernel_rfl
/-- A call of '(*carfax/heap.Heap).Push', by its condition. -/
theorem S15_calls {h : Option Addr} {x_0 : Int} {x_1 : Int} {w : World} {R : Value → World → Prop} (hS : S15 h x_0 x_1 w R) : Ret Try.prog 15 [(.pointer h), (.agg ⟨[(.int .i64 x_0), (.int .i64 x_1)]⟩)] w R :=
  R_calls (C := ⟨cal, S15_nx⟩) cal_ok follows Try.func15 (c := Try.f15.body.getD .skip) (res := #[]) (n := 36) (by kernel_rfl) (by kernel_rfl) (by kernel_rfl) (by kernel_rfl) ((S15_eq h x_0 x_1 w R).mpr hS)

def S16_ann (p : List Nat) : Option LA := match p with
  | [0, 0, 1, 1] => some ⟨[0, 3], [(4, .one (.int .i64))]⟩
  | _ => none

def S16_nx (t : Nat) : Option (TypeId × TypeId) := none

def S16_k2 (h : Option Addr) (x : Addr) (k : Int) (w : World) (R : Value → World → Prop) (B1 : (Int) × Unit → World → Prop) : Prop :=
  B1 ((IntKind.i64.wrap (k + 1)), ()) w

def S16_k3 (h : Option Addr) (x : Addr) (k : Int) (w : World) (R : Value → World → Prop) : Prop :=
  ∃ (t30 : Addr),
  h = some t30 ∧
  ∃ (t32_a : Option Addr) (t32_l : Nat) (t32_c : Nat),
  (w.alloc (.cells ⟨[]⟩ 32)).cell? t30 = some (.slice t32_a t32_l t32_c) ∧
  0 ≤ (k : Int) ∧
  (k : Int) ≤ ((t32_c : Nat) : Int) ∧
  ∃ (t35_a : Option Addr) (t35_l : Nat) (t35_c : Nat) (w_ : World),
  (Builtin.append_ #[27, 27] 27 ⟨[(.slice (some ⟨w.heap.size, 0, none⟩) 0 0), (.slice (slAddr t32_a t32_c 0 2) ((Int.toNat k) - 0) (t32_c - 0))]⟩).run Try.prog (w.alloc (.cells ⟨[]⟩ 32)) = .ok (.slice t35_a t35_l t35_c) w_ ∧
  ∃ (t37_0 : Int),
  w_.cell? x = some (.int .i64 t37_0) ∧
  ∃ (t37_1 : Int),
  w_.cell? (x.add 1) = some (.int .i64 t37_1) ∧
  ∃ (t39_a : Option Addr) (t39_l : Nat) (t39_c : Nat) (w__1 : World),
  (Builtin.append_ #[27, 27] 27 ⟨[(.slice t35_a t35_l t35_c), (.slice (some ⟨w_.heap.size, 0, none⟩) 1 1)]⟩).run Try.prog (w_.alloc (.cells ⟨[(.int .i64 t37_0), (.int .i64 t37_1)]⟩ 32)) = .ok (.slice t39_a t39_l t39_c) w__1 ∧
  ∃ (t42 : Addr),
  h = some t42 ∧
  ∃ (t44_a : Option Addr) (t44_l : Nat) (t44_c : Nat),
  w__1.cell? t42 = some (.slice t44_a t44_l t44_c) ∧
  0 ≤ (k : Int) ∧
  (k : Int) ≤ ((t44_l : Nat) : Int) ∧
  ∃ (t47_a : Option Addr) (t47_l : Nat) (t47_c : Nat) (w__2 : World),
  (Builtin.append_ #[27, 27] 27 ⟨[(.slice t39_a t39_l t39_c), (.slice (slAddr t44_a t44_c (Int.toNat k) 2) (t44_l - (Int.toNat k)) (t44_c - (Int.toNat k)))]⟩).run Try.prog w__1 = .ok (.slice t47_a t47_l t47_c) w__2 ∧
  ∃ (t50 : Addr),
  h = some t50 ∧
  (∃ u, w__2.cell? t50 = some u) ∧
  w__2.frozen? t50 = false ∧
  R (.tuple ⟨[]⟩) (w__2.setCell t50 (.slice t47_a t47_l t47_c))

def S16_k1 (h : Option Addr) (x : Addr) (k : Int) (t25 : Bool) (w : World) (R : Value → World → Prop) (B1 : (Int) × Unit → World → Prop) : Prop :=
  cond t25 (
    S16_k2 h x k w R B1
  ) (
    S16_k3 h x k w R
  )

def S16_L0 (h : Option Addr) (x : Addr) (k : Int) (w : World) (R : Value → World → Prop) (B1 : (Int) × Unit → World → Prop) : Prop :=
  ∃ (t8 : Addr),
  h = some t8 ∧
  ∃ (t10_a : Option Addr) (t10_l : Nat) (t10_c : Nat),
  w.drew.cell? t8 = some (.slice t10_a t10_l t10_c) ∧
  cond (decide ((k : Int) < ((t10_l : Nat) : Int))) (
    ∃ (t15 : Addr),
    h = some t15 ∧
    ∃ (t17_a : Option Addr) (t17_l : Nat) (t17_c : Nat),
    w.drew.cell? t15 = some (.slice t17_a t17_l t17_c) ∧
    ∃ (t19 : Addr),
    t17_a = some t19 ∧
    0 ≤ (k : Int) ∧
    (k : Int) < ((t17_l : Nat) : Int) ∧
    ∃ (t21 : Int),
    w.drew.cell? (t19.add (Int.toNat k * 2)) = some (.int .i64 t21) ∧
    ∃ (t23 : Int),
    w.drew.cell? x = some (.int .i64 t23) ∧
    S16_k1 h x k (decide ((t21 : Int) ≤ t23)) w.drew R B1
  ) (
    S16_k1 h x k false w.drew R B1
  )

def S16 (h : Option Addr) (x_0 : Int) (x_1 : Int) (w : World) (R : Value → World → Prop) : Prop :=
  ∃ (I : (Int) × Unit → World → Prop) (μ : (Int) × Unit → World → Nat),
  I (0, ()) (w.alloc (.cells ⟨[(.int .i64 x_0), (.int .i64 x_1)]⟩ 32)) ∧
  ∀ (J : Env) (s : (Int) × Unit) (w' : World), I s w' →
    S16_L0 h ⟨w.heap.size, 0, none⟩ s.1 w' R (fun s' w'' => I s' w'' ∧ μ s' w'' < μ s w')

theorem S16_eq (h : Option Addr) (x_0 : Int) (x_1 : Int) (w : World) (R : Value → World → Prop) : Eng.R Try.prog ⟨cal, S16_nx⟩ 52 S16_ann [] (Try.f16.body.getD .skip) (bodyQ Try.prog #[] R) (argE [(.pointer h), (.agg ⟨[(.int .i64 x_0), (.int .i64 x_1)]⟩)]) w = S16 h x_0 x_1 w R := by kernel_rfl
/-- A call of '(*carfax/carfaxref04.Heap).Push', by its condition. -/
theorem S16_calls {h : Option Addr} {x_0 : Int} {x_1 : Int} {w : World} {R : Value → World → Prop} (hS : S16 h x_0 x_1 w R) : Ret Try.prog 16 [(.pointer h), (.agg ⟨[(.int .i64 x_0), (.int .i64 x_1)]⟩)] w R :=
  R_calls (C := ⟨cal, S16_nx⟩) cal_ok follows Try.func16 (c := Try.f16.body.getD .skip) (res := #[]) (n := 52) (by kernel_rfl) (by kernel_rfl) (by kernel_rfl) (by kernel_rfl) ((S16_eq h x_0 x_1 w R).mpr hS)

def S17_ann (p : List Nat) : Option LA :=
  none

def S17_nx (t : Nat) : Option (TypeId × TypeId) := none

def S17_k0 (h : Option Addr) (t2 : Addr) (w : World) (R : Value → World → Prop) : Prop :=
  ∃ (t9 : Addr),
  h = some t9 ∧
  ∃ (t11_a : Option Addr) (t11_l : Nat) (t11_c : Nat),
  w.cell? t9 = some (.slice t11_a t11_l t11_c) ∧
  ∃ (t12 : Addr),
  t11_a = some t12 ∧
  0 ≤ (0 : Int) ∧
  (0 : Int) < ((t11_l : Nat) : Int) ∧
  ∃ (t14_0 : Int),
  w.cell? (t12.add (Int.toNat 0 * 3)) = some (.int .i64 t14_0) ∧
  ∃ (t14_1 : Int),
  w.cell? ((t12.add (Int.toNat 0 * 3)).add 1) = some (.int .i64 t14_1) ∧
  (∃ u, w.cell? t2 = some u) ∧
  w.frozen? t2 = false ∧
  (∃ u, (w.setCell t2 (.int .i64 t14_0)).cell? (t2.add 1) = some u) ∧
  (w.setCell t2 (.int .i64 t14_0)).frozen? (t2.add 1) = false ∧
  ∃ (t2_0 : Int),
  ((w.setCell t2 (.int .i64 t14_0)).setCell (t2.add 1) (.int .i64 t14_1)).cell? t2 = some (.int .i64 t2_0) ∧
  ∃ (t2_1 : Int),
  ((w.setCell t2 (.int .i64 t14_0)).setCell (t2.add 1) (.int .i64 t14_1)).cell? (t2.add 1) = some (.int .i64 t2_1) ∧
  R (.tuple ⟨[(.agg ⟨[(.int .i64 t2_0), (.int .i64 t2_1)]⟩), (.bool true)]⟩) ((w.setCell t2 (.int .i64 t14_0)).setCell (t2.add 1) (.int .i64 t14_1))

def S17 (h : Option Addr) (w : World) (R : Value → World → Prop) : Prop :=
  Calls Try.prog 19 ⟨[(.pointer h)]⟩ (w.alloc (.cells ⟨[(.int .i64 0), (.int .i64 0)]⟩ 32)) fun e w_ =>
    ∃ (t5 : Int),
    e = .returned (.int .i64 t5) ∧
    cond (decide ((t5 : Int) = 0)) (
      (∃ u, w_.cell? ⟨w.heap.size, 0, none⟩ = some u) ∧
      w_.frozen? ⟨w.heap.size, 0, none⟩ = false ∧
      (∃ u, (w_.setCell ⟨w.heap.size, 0, none⟩ (.int .i64 0)).cell? ⟨w.heap.size, 1, none⟩ = some u) ∧
      (w_.setCell ⟨w.heap.size, 0, none⟩ (.int .i64 0)).frozen? ⟨w.heap.size, 1, none⟩ = false ∧
      ∃ (t2_0 : Int),
      ((w_.setCell ⟨w.heap.size, 0, none⟩ (.int .i64 0)).setCell ⟨w.heap.size, 1, none⟩ (.int .i64 0)).cell? ⟨w.heap.size, 0, none⟩ = some (.int .i64 t2_0) ∧
      ∃ (t2_1 : Int),
      ((w_.setCell ⟨w.heap.size, 0, none⟩ (.int .i64 0)).setCell ⟨w.heap.size, 1, none⟩ (.int .i64 0)).cell? ⟨w.heap.size, 1, none⟩ = some (.int .i64 t2_1) ∧
      R (.tuple ⟨[(.agg ⟨[(.int .i64 t2_0), (.int .i64 t2_1)]⟩), (.bool false)]⟩) ((w_.setCell ⟨w.heap.size, 0, none⟩ (.int .i64 0)).setCell ⟨w.heap.size, 1, none⟩ (.int .i64 0))
    ) (
      S17_k0 h ⟨w.heap.size, 0, none⟩ w_ R
    )

theorem S17_eq (h : Option Addr) (w : World) (R : Value → World → Prop) : Eng.R Try.prog ⟨cal, S17_nx⟩ 15 S17_ann [] (Try.f17.body.getD .skip) (bodyQ Try.prog #[.cell 2 32, .tmp 3] R) (argE [(.pointer h)]) w = S17 h w R := by kernel_rfl
/-- A call of '(*carfax/heap.Heap).Peek', by its condition. -/
theorem S17_calls {h : Option Addr} {w : World} {R : Value → World → Prop} (hS : S17 h w R) : Ret Try.prog 17 [(.pointer h)] w R :=
  R_calls (C := ⟨cal, S17_nx⟩) cal_ok follows Try.func17 (c := Try.f17.body.getD .skip) (res := #[.cell 2 32, .tmp 3]) (n := 15) (by kernel_rfl) (by kernel_rfl) (by kernel_rfl) (by kernel_rfl) ((S17_eq h w R).mpr hS)

def S18_ann (p : List Nat) : Option LA :=
  none

def S18_nx (t : Nat) : Option (TypeId × TypeId) := none

def S18_k0 (h : Option Addr) (t2 : Addr) (w : World) (R : Value → World → Prop) : Prop :=
  ∃ (t12 : Addr),
  h = some t12 ∧
  ∃ (t14_a : Option Addr) (t14_l : Nat) (t14_c : Nat),
  w.cell? t12 = some (.slice t14_a t14_l t14_c) ∧
  ∃ (t15 : Addr),
  t14_a = some t15 ∧
  0 ≤ (0 : Int) ∧
  (0 : Int) < ((t14_l : Nat) : Int) ∧
  ∃ (t16_0 : Int),
  w.cell? (t15.add (Int.toNat 0 * 2)) = some (.int .i64 t16_0) ∧
  ∃ (t16_1 : Int),
  w.cell? ((t15.add (Int.toNat 0 * 2)).add 1) = some (.int .i64 t16_1) ∧
  (∃ u, w.cell? t2 = some u) ∧
  w.frozen? t2 = false ∧
  (∃ u, (w.setCell t2 (.int .i64 t16_0)).cell? (t2.add 1) = some u) ∧
  (w.setCell t2 (.int .i64 t16_0)).frozen? (t2.add 1) = false ∧
  ∃ (t2_0 : Int),
  ((w.setCell t2 (.int .i64 t16_0)).setCell (t2.add 1) (.int .i64 t16_1)).cell? t2 = some (.int .i64 t2_0) ∧
  ∃ (t2_1 : Int),
  ((w.setCell t2 (.int .i64 t16_0)).setCell (t2.add 1) (.int .i64 t16_1)).cell? (t2.add 1) = some (.int .i64 t2_1) ∧
  R (.tuple ⟨[(.agg ⟨[(.int .i64 t2_0), (.int .i64 t2_1)]⟩), (.bool true)]⟩) ((w.setCell t2 (.int .i64 t16_0)).setCell (t2.add 1) (.int .i64 t16_1))

def S18 (h : Option Addr) (w : World) (R : Value → World → Prop) : Prop :=
  ∃ (t5 : Addr),
  h = some t5 ∧
  ∃ (t7_a : Option Addr) (t7_l : Nat) (t7_c : Nat),
  (w.alloc (.cells ⟨[(.int .i64 0), (.int .i64 0)]⟩ 32)).cell? t5 = some (.slice t7_a t7_l t7_c) ∧
  cond (decide ((((t7_l : Nat) : Int) : Int) = 0)) (
    (∃ u, (w.alloc (.cells ⟨[(.int .i64 0), (.int .i64 0)]⟩ 32)).cell? ⟨w.heap.size, 0, none⟩ = some u) ∧
    (w.alloc (.cells ⟨[(.int .i64 0), (.int .i64 0)]⟩ 32)).frozen? ⟨w.heap.size, 0, none⟩ = false ∧
    (∃ u, ((w.alloc (.cells ⟨[(.int .i64 0), (.int .i64 0)]⟩ 32)).setCell ⟨w.heap.size, 0, none⟩ (.int .i64 0)).cell? ⟨w.heap.size, 1, none⟩ = some u) ∧
    ((w.alloc (.cells ⟨[(.int .i64 0), (.int .i64 0)]⟩ 32)).setCell ⟨w.heap.size, 0, none⟩ (.int .i64 0)).frozen? ⟨w.heap.size, 1, none⟩ = false ∧
    ∃ (t2_0 : Int),
    (((w.alloc (.cells ⟨[(.int .i64 0), (.int .i64 0)]⟩ 32)).setCell ⟨w.heap.size, 0, none⟩ (.int .i64 0)).setCell ⟨w.heap.size, 1, none⟩ (.int .i64 0)).cell? ⟨w.heap.size, 0, none⟩ = some (.int .i64 t2_0) ∧
    ∃ (t2_1 : Int),
    (((w.alloc (.cells ⟨[(.int .i64 0), (.int .i64 0)]⟩ 32)).setCell ⟨w.heap.size, 0, none⟩ (.int .i64 0)).setCell ⟨w.heap.size, 1, none⟩ (.int .i64 0)).cell? ⟨w.heap.size, 1, none⟩ = some (.int .i64 t2_1) ∧
    R (.tuple ⟨[(.agg ⟨[(.int .i64 t2_0), (.int .i64 t2_1)]⟩), (.bool false)]⟩) (((w.alloc (.cells ⟨[(.int .i64 0), (.int .i64 0)]⟩ 32)).setCell ⟨w.heap.size, 0, none⟩ (.int .i64 0)).setCell ⟨w.heap.size, 1, none⟩ (.int .i64 0))
  ) (
    S18_k0 h ⟨w.heap.size, 0, none⟩ (w.alloc (.cells ⟨[(.int .i64 0), (.int .i64 0)]⟩ 32)) R
  )

theorem S18_eq (h : Option Addr) (w : World) (R : Value → World → Prop) : Eng.R Try.prog ⟨cal, S18_nx⟩ 17 S18_ann [] (Try.f18.body.getD .skip) (bodyQ Try.prog #[.cell 2 32, .tmp 3] R) (argE [(.pointer h)]) w = S18 h w R := by kernel_rfl
/-- A call of '(*carfax/carfaxref04.Heap).Peek', by its condition. -/
theorem S18_calls {h : Option Addr} {w : World} {R : Value → World → Prop} (hS : S18 h w R) : Ret Try.prog 18 [(.pointer h)] w R :=
  R_calls (C := ⟨cal, S18_nx⟩) cal_ok follows Try.func18 (c := Try.f18.body.getD .skip) (res := #[.cell 2 32, .tmp 3]) (n := 17) (by kernel_rfl) (by kernel_rfl) (by kernel_rfl) (by kernel_rfl) ((S18_eq h w R).mpr hS)

def S19_ann (p : List Nat) : Option LA :=
  none

def S19_nx (t : Nat) : Option (TypeId × TypeId) := none

def S19_k0 (h : Option Addr) (w : World) (R : Value → World → Prop) : Prop :=
  ∃ (t6 : Addr),
  h = some t6 ∧
  ∃ (t8_a : Option Addr) (t8_l : Nat) (t8_c : Nat),
  w.cell? t6 = some (.slice t8_a t8_l t8_c) ∧
  R (.int .i64 ((t8_l : Nat) : Int)) w

def S19 (h : Option Addr) (w : World) (R : Value → World → Prop) : Prop :=
  cond (Option.isNone h) (
    R (.int .i64 0) w
  ) (
    S19_k0 h w R
  )

theorem S19_eq (h : Option Addr) (w : World) (R : Value → World → Prop) : Eng.R Try.prog ⟨cal, S19_nx⟩ 10 S19_ann [] (Try.f19.body.getD .skip) (bodyQ Try.prog #[.tmp 2] R) (argE [(.pointer h)]) w = S19 h w R := by kernel_rfl
/-- A call of '(*carfax/heap.Heap).Len', by its condition. -/
theorem S19_calls {h : Option Addr} {w : World} {R : Value → World → Prop} (hS : S19 h w R) : Ret Try.prog 19 [(.pointer h)] w R :=
  R_calls (C := ⟨cal, S19_nx⟩) cal_ok follows Try.func19 (c := Try.f19.body.getD .skip) (res := #[.tmp 2]) (n := 10) (by kernel_rfl) (by kernel_rfl) (by kernel_rfl) (by kernel_rfl) ((S19_eq h w R).mpr hS)

def S20_ann (p : List Nat) : Option LA := match p with
  | [0, 1, 0, 1, 1] => some ⟨[0, 1], [(5, .one (.int .i64))]⟩
  | _ => none

def S20_nx (t : Nat) : Option (TypeId × TypeId) := none

def S20_k3 (a_a : Option Addr) (a_l : Nat) (a_c : Nat) (b_a : Option Addr) (b_l : Nat) (b_c : Nat) (i : Int) (t25 : Bool) (w : World) (R : Value → World → Prop) (B1 : (Int) × Unit → World → Prop) : Prop :=
  cond t25 (
    R (.bool false) w
  ) (
    B1 ((IntKind.i64.wrap (i + 1)), ()) w
  )

def S20_k2 (a_a : Option Addr) (a_l : Nat) (a_c : Nat) (b_a : Option Addr) (b_l : Nat) (b_c : Nat) (i : Int) (w : World) (R : Value → World → Prop) (B1 : (Int) × Unit → World → Prop) : Prop :=
  ∃ (t19 : Addr),
  a_a = some t19 ∧
  0 ≤ (i : Int) ∧
  (i : Int) < ((a_l : Nat) : Int) ∧
  ∃ (t20_0 : Int),
  w.drew.cell? (t19.add (Int.toNat i * 2)) = some (.int .i64 t20_0) ∧
  ∃ (t20_1 : Int),
  w.drew.cell? ((t19.add (Int.toNat i * 2)).add 1) = some (.int .i64 t20_1) ∧
  ∃ (t23 : Addr),
  b_a = some t23 ∧
  0 ≤ (i : Int) ∧
  (i : Int) < ((b_l : Nat) : Int) ∧
  ∃ (t24_0 : Int),
  w.drew.cell? (t23.add (Int.toNat i * 2)) = some (.int .i64 t24_0) ∧
  ∃ (t24_1 : Int),
  w.drew.cell? ((t23.add (Int.toNat i * 2)).add 1) = some (.int .i64 t24_1) ∧
  ∃ (t25 : Bool) (w_ : World),
  (do eqGuard .neq 32 (.tmp 20) (.tmp 24) (.agg ⟨[(.int .i64 t20_0), (.int .i64 t20_1)]⟩) (.agg ⟨[(.int .i64 t24_0), (.int .i64 t24_1)]⟩); binOp .neq 32 (.agg ⟨[(.int .i64 t20_0), (.int .i64 t20_1)]⟩) (.agg ⟨[(.int .i64 t24_0), (.int .i64 t24_1)]⟩)).run Try.prog w.drew = .ok (.bool t25) w_ ∧
  S20_k3 a_a a_l a_c b_a b_l b_c i t25 w_ R B1

def S20_L1 (a_a : Option Addr) (a_l : Nat) (a_c : Nat) (b_a : Option Addr) (b_l : Nat) (b_c : Nat) (i : Int) (w : World) (R : Value → World → Prop) (B1 : (Int) × Unit → World → Prop) : Prop :=
  cond (decide ((i : Int) < ((a_l : Nat) : Int))) (
    S20_k2 a_a a_l a_c b_a b_l b_c i w R B1
  ) (
    R (.bool true) w
  )

def S20_k0 (a_a : Option Addr) (a_l : Nat) (a_c : Nat) (b_a : Option Addr) (b_l : Nat) (b_c : Nat) (w : World) (R : Value → World → Prop) : Prop :=
  ∃ (I : (Int) × Unit → World → Prop) (μ : (Int) × Unit → World → Nat),
  I (0, ()) w ∧
  ∀ (J : Env) (s : (Int) × Unit) (w' : World), I s w' →
    S20_L1 a_a a_l a_c b_a b_l b_c s.1 w' R (fun s' w'' => I s' w'' ∧ μ s' w'' < μ s w')

def S20 (a_a : Option Addr) (a_l : Nat) (a_c : Nat) (b_a : Option Addr) (b_l : Nat) (b_c : Nat) (w : World) (R : Value → World → Prop) : Prop :=
  cond (!decide ((((a_l : Nat) : Int) : Int) = ((b_l : Nat) : Int))) (
    R (.bool false) w
  ) (
    S20_k0 a_a a_l a_c b_a b_l b_c w R
  )

theorem S20_eq (a_a : Option Addr) (a_l : Nat) (a_c : Nat) (b_a : Option Addr) (b_l : Nat) (b_c : Nat) (w : World) (R : Value → World → Prop) : Eng.R Try.prog ⟨cal, S20_nx⟩ 26 S20_ann [] (Try.f20.body.getD .skip) (bodyQ Try.prog #[.tmp 4] R) (argE [(.slice a_a a_l a_c), (.slice b_a b_l b_c)]) w = S20 a_a a_l a_c b_a b_l b_c w R := by kernel_rfl
/-- A call of 'carfax/carfaxref04.Same', by its condition. -/
theorem S20_calls {a_a : Option Addr} {a_l : Nat} {a_c : Nat} {b_a : Option Addr} {b_l : Nat} {b_c : Nat} {w : World} {R : Value → World → Prop} (hS : S20 a_a a_l a_c b_a b_l b_c w R) : Ret Try.prog 20 [(.slice a_a a_l a_c), (.slice b_a b_l b_c)] w R :=
  R_calls (C := ⟨cal, S20_nx⟩) cal_ok follows Try.func20 (c := Try.f20.body.getD .skip) (res := #[.tmp 4]) (n := 26) (by kernel_rfl) (by kernel_rfl) (by kernel_rfl) (by kernel_rfl) ((S20_eq a_a a_l a_c b_a b_l b_c w R).mpr hS)

def S21_ann (p : List Nat) : Option LA := match p with
  | [0, 1, 0, 1, 1] => some ⟨[0, 3, 10, 11], [(12, .one (.int .i64))]⟩
  | [0, 1, 0, 1, 1, 1, 1] => some ⟨[3, 21], [(6, .one .slice), (22, .one (.int .i64))]⟩
  | _ => none

def S21_nx (t : Nat) : Option (TypeId × TypeId) := none

def S21_k1 (l_a : Option Addr) (l_l : Nat) (l_c : Nat) (h : Option Addr) (t10_a : Option Addr) (t10_l : Nat) (t10_c : Nat) (t11 : Int) (t12 : Int) (w : World) (R : Value → World → Prop) (B1 : (Int) × Unit → World → Prop) : Prop :=
  ∃ (t14 : Addr),
  t10_a = some t14 ∧
  0 ≤ (t12 : Int) ∧
  (t12 : Int) < ((t10_l : Nat) : Int) ∧
  ∃ (t15_0 : Int),
  w.cell? (t14.add (Int.toNat t12 * 2)) = some (.int .i64 t15_0) ∧
  ∃ (t15_1 : Int),
  w.cell? ((t14.add (Int.toNat t12 * 2)).add 1) = some (.int .i64 t15_1) ∧
  (∃ u, (w.alloc (.cells ⟨[(.int .i64 0), (.int .i64 0)]⟩ 32)).cell? ⟨w.heap.size, 0, none⟩ = some u) ∧
  (w.alloc (.cells ⟨[(.int .i64 0), (.int .i64 0)]⟩ 32)).frozen? ⟨w.heap.size, 0, none⟩ = false ∧
  (∃ u, ((w.alloc (.cells ⟨[(.int .i64 0), (.int .i64 0)]⟩ 32)).setCell ⟨w.heap.size, 0, none⟩ (.int .i64 t15_0)).cell? ⟨w.heap.size, 1, none⟩ = some u) ∧
  ((w.alloc (.cells ⟨[(.int .i64 0), (.int .i64 0)]⟩ 32)).setCell ⟨w.heap.size, 0, none⟩ (.int .i64 t15_0)).frozen? ⟨w.heap.size, 1, none⟩ = false ∧
  ∃ (t17_0 : Int),
  (((w.alloc (.cells ⟨[(.int .i64 0), (.int .i64 0)]⟩ 32)).setCell ⟨w.heap.size, 0, none⟩ (.int .i64 t15_0)).setCell ⟨w.heap.size, 1, none⟩ (.int .i64 t15_1)).cell? ⟨w.heap.size, 0, none⟩ = some (.int .i64 t17_0) ∧
  ∃ (t17_1 : Int),
  (((w.alloc (.cells ⟨[(.int .i64 0), (.int .i64 0)]⟩ 32)).setCell ⟨w.heap.size, 0, none⟩ (.int .i64 t15_0)).setCell ⟨w.heap.size, 1, none⟩ (.int .i64 t15_1)).cell? ⟨w.heap.size, 1, none⟩ = some (.int .i64 t17_1) ∧
  Calls Try.prog 15 ⟨[(.pointer h), (.agg ⟨[(.int .i64 t17_0), (.int .i64 t17_1)]⟩)]⟩ (((w.alloc (.cells ⟨[(.int .i64 0), (.int .i64 0)]⟩ 32)).setCell ⟨w.heap.size, 0, none⟩ (.int .i64 t15_0)).setCell ⟨w.heap.size, 1, none⟩ (.int .i64 t15_1)) fun e w_ =>
    e = .returned (.tuple ⟨[]⟩) ∧
    B1 ((IntKind.i64.wrap (t12 + 1)), ()) w_

def S21_k4 (h : Option Addr) (out_a : Option Addr) (out_l : Nat) (out_c : Nat) (t21 : Int) (t22 : Int) (w : World) (R : Value → World → Prop) (B1 : (Option Addr × Nat × Nat) × (Int) × Unit → World → Prop) : Prop :=
  Calls Try.prog 13 ⟨[(.pointer h)]⟩ w fun e w_ =>
    ∃ (t26_0_0 : Int) (t26_0_1 : Int) (t26_1 : Bool),
    e = .returned (.tuple ⟨[(.agg ⟨[(.int .i64 t26_0_0), (.int .i64 t26_0_1)]⟩), (.bool t26_1)]⟩) ∧
    (∃ u, (w_.alloc (.cells ⟨[(.int .i64 0), (.int .i64 0)]⟩ 32)).cell? ⟨w_.heap.size, 0, none⟩ = some u) ∧
    (w_.alloc (.cells ⟨[(.int .i64 0), (.int .i64 0)]⟩ 32)).frozen? ⟨w_.heap.size, 0, none⟩ = false ∧
    (∃ u, ((w_.alloc (.cells ⟨[(.int .i64 0), (.int .i64 0)]⟩ 32)).setCell ⟨w_.heap.size, 0, none⟩ (.int .i64 t26_0_0)).cell? ⟨w_.heap.size, 1, none⟩ = some u) ∧
    ((w_.alloc (.cells ⟨[(.int .i64 0), (.int .i64 0)]⟩ 32)).setCell ⟨w_.heap.size, 0, none⟩ (.int .i64 t26_0_0)).frozen? ⟨w_.heap.size, 1, none⟩ = false ∧
    ∃ (t30_0 : Int),
    (((w_.alloc (.cells ⟨[(.int .i64 0), (.int .i64 0)]⟩ 32)).setCell ⟨w_.heap.size, 0, none⟩ (.int .i64 t26_0_0)).setCell ⟨w_.heap.size, 1, none⟩ (.int .i64 t26_0_1)).cell? ⟨w_.heap.size, 0, none⟩ = some (.int .i64 t30_0) ∧
    ∃ (t30_1 : Int),
    (((w_.alloc (.cells ⟨[(.int .i64 0), (.int .i64 0)]⟩ 32)).setCell ⟨w_.heap.size, 0, none⟩ (.int .i64 t26_0_0)).setCell ⟨w_.heap.size, 1, none⟩ (.int .i64 t26_0_1)).cell? ⟨w_.heap.size, 1, none⟩ = some (.int .i64 t30_1) ∧
    ∃ (t32_a : Option Addr) (t32_l : Nat) (t32_c : Nat) (w__1 : World),
    (Builtin.append_ #[27, 27] 27 ⟨[(.slice out_a out_l out_c), (.slice (some ⟨(((w_.alloc (.cells ⟨[(.int .i64 0), (.int .i64 0)]⟩ 32)).setCell ⟨w_.heap.size, 0, none⟩ (.int .i64 t26_0_0)).setCell ⟨w_.heap.size, 1, none⟩ (.int .i64 t26_0_1)).heap.size, 0, none⟩) 1 1)]⟩).run Try.prog ((((w_.alloc (.cells ⟨[(.int .i64 0), (.int .i64 0)]⟩ 32)).setCell ⟨w_.heap.size, 0, none⟩ (.int .i64 t26_0_0)).setCell ⟨w_.heap.size, 1, none⟩ (.int .i64 t26_0_1)).alloc (.cells ⟨[(.int .i64 t30_0), (.int .i64 t30_1)]⟩ 32)) = .ok (.slice t32_a t32_l t32_c) w__1 ∧
    B1 ((t32_a, t32_l, t32_c), (IntKind.i64.wrap (t22 + 1)), ()) w__1

def S21_L3 (h : Option Addr) (out_a : Option Addr) (out_l : Nat) (out_c : Nat) (t21 : Int) (t22 : Int) (w : World) (R : Value → World → Prop) (B1 : (Option Addr × Nat × Nat) × (Int) × Unit → World → Prop) : Prop :=
  cond (decide ((t22 : Int) < t21)) (
    S21_k4 h out_a out_l out_c t21 t22 w R B1
  ) (
    R (.slice out_a out_l out_c) w
  )

def S21_k2 (l_a : Option Addr) (l_l : Nat) (l_c : Nat) (h : Option Addr) (w : World) (R : Value → World → Prop) : Prop :=
  ∃ (I : (Option Addr × Nat × Nat) × (Int) × Unit → World → Prop) (μ : (Option Addr × Nat × Nat) × (Int) × Unit → World → Nat),
  I ((none, 0, 0), 0, ()) w ∧
  ∀ (J : Env) (s : (Option Addr × Nat × Nat) × (Int) × Unit) (w' : World), I s w' →
    S21_L3 h s.1.1 s.1.2.1 s.1.2.2 ((l_l : Nat) : Int) s.2.1 w' R (fun s' w'' => I s' w'' ∧ μ s' w'' < μ s w')

def S21_L0 (l_a : Option Addr) (l_l : Nat) (l_c : Nat) (h : Option Addr) (t10_a : Option Addr) (t10_l : Nat) (t10_c : Nat) (t11 : Int) (t12 : Int) (w : World) (R : Value → World → Prop) (B1 : (Int) × Unit → World → Prop) : Prop :=
  cond (decide ((t12 : Int) < t11)) (
    S21_k1 l_a l_l l_c h t10_a t10_l t10_c t11 t12 w R B1
  ) (
    S21_k2 l_a l_l l_c h w R
  )

def S21 (l_a : Option Addr) (l_l : Nat) (l_c : Nat) (w : World) (R : Value → World → Prop) : Prop :=
  Calls Try.prog 11 ⟨[]⟩ w fun e w_ =>
    ∃ (t9 : Option Addr),
    e = .returned (.pointer t9) ∧
    ∃ (I : (Int) × Unit → World → Prop) (μ : (Int) × Unit → World → Nat),
    I (0, ()) w_ ∧
    ∀ (J : Env) (s : (Int) × Unit) (w' : World), I s w' →
      S21_L0 l_a l_l l_c t9 l_a l_l l_c ((l_l : Nat) : Int) s.1 w' R (fun s' w'' => I s' w'' ∧ μ s' w'' < μ s w')

theorem S21_eq (l_a : Option Addr) (l_l : Nat) (l_c : Nat) (w : World) (R : Value → World → Prop) : Eng.R Try.prog ⟨cal, S21_nx⟩ 35 S21_ann [] (Try.f21.body.getD .skip) (bodyQ Try.prog #[.tmp 2] R) (argE [(.slice l_a l_l l_c)]) w = S21 l_a l_l l_c w R := by kernel_rfl
/-- A call of 'carfax/heap.Sort', by its condition. -/
theorem S21_calls {l_a : Option Addr} {l_l : Nat} {l_c : Nat} {w : World} {R : Value → World → Prop} (hS : S21 l_a l_l l_c w R) : Ret Try.prog 21 [(.slice l_a l_l l_c)] w R :=
  R_calls (C := ⟨cal, S21_nx⟩) cal_ok follows Try.func21 (c := Try.f21.body.getD .skip) (res := #[.tmp 2]) (n := 35) (by kernel_rfl) (by kernel_rfl) (by kernel_rfl) (by kernel_rfl) ((S21_eq l_a l_l l_c w R).mpr hS)

def S22_ann (p : List Nat) : Option LA := match p with
  | [0, 1, 0, 1, 1] => some ⟨[0, 3], [(4, .one (.int .i64))]⟩
  | _ => none

def S22_nx (t : Nat) : Option (TypeId × TypeId) := none

def S22_k1 (l_a : Option Addr) (l_l : Nat) (l_c : Nat) (h : Addr) (i : Int) (w : World) (R : Value → World → Prop) (B1 : (Int) × Unit → World → Prop) : Prop :=
  ∃ (t16 : Addr),
  l_a = some t16 ∧
  0 ≤ (i : Int) ∧
  (i : Int) < ((l_l : Nat) : Int) ∧
  ∃ (t17_0 : Int),
  w.cell? (t16.add (Int.toNat i * 2)) = some (.int .i64 t17_0) ∧
  ∃ (t17_1 : Int),
  w.cell? ((t16.add (Int.toNat i * 2)).add 1) = some (.int .i64 t17_1) ∧
  Calls Try.prog 16 ⟨[(.pointer (some h)), (.agg ⟨[(.int .i64 t17_0), (.int .i64 t17_1)]⟩)]⟩ w fun e w_ =>
    e = .returned (.tuple ⟨[]⟩) ∧
    B1 ((IntKind.i64.wrap (i + 1)), ()) w_

def S22_k2 (h : Addr) (w : World) (R : Value → World → Prop) : Prop :=
  ∃ (t20 : Addr),
  (some h) = some t20 ∧
  ∃ (t22_a : Option Addr) (t22_l : Nat) (t22_c : Nat),
  w.cell? t20 = some (.slice t22_a t22_l t22_c) ∧
  R (.slice t22_a t22_l t22_c) w

def S22_L0 (l_a : Option Addr) (l_l : Nat) (l_c : Nat) (h : Addr) (i : Int) (w : World) (R : Value → World → Prop) (B1 : (Int) × Unit → World → Prop) : Prop :=
  cond (decide ((i : Int) < ((l_l : Nat) : Int))) (
    S22_k1 l_a l_l l_c h i w R B1
  ) (
    S22_k2 h w R
  )

def S22 (l_a : Option Addr) (l_l : Nat) (l_c : Nat) (w : World) (R : Value → World → Prop) : Prop :=
  ∃ (I : (Int) × Unit → World → Prop) (μ : (Int) × Unit → World → Nat),
  I (0, ()) (w.alloc (.cells ⟨[(.slice none 0 0)]⟩ 29)) ∧
  ∀ (J : Env) (s : (Int) × Unit) (w' : World), I s w' →
    S22_L0 l_a l_l l_c ⟨w.heap.size, 0, none⟩ s.1 w' R (fun s' w'' => I s' w'' ∧ μ s' w'' < μ s w')

theorem S22_eq (l_a : Option Addr) (l_l : Nat) (l_c : Nat) (w : World) (R : Value → World → Prop) : Eng.R Try.prog ⟨cal, S22_nx⟩ 23 S22_ann [] (Try.f22.body.getD .skip) (bodyQ Try.prog #[.tmp 2] R) (argE [(.slice l_a l_l l_c)]) w = S22 l_a l_l l_c w R := by kernel_rfl
/-- A call of 'carfax/carfaxref04.Sort', by its condition. -/
theorem S22_calls {l_a : Option Addr} {l_l : Nat} {l_c : Nat} {w : World} {R : Value → World → Prop} (hS : S22 l_a l_l l_c w R) : Ret Try.prog 22 [(.slice l_a l_l l_c)] w R :=
  R_calls (C := ⟨cal, S22_nx⟩) cal_ok follows Try.func22 (c := Try.f22.body.getD .skip) (res := #[.tmp 2]) (n := 23) (by kernel_rfl) (by kernel_rfl) (by kernel_rfl) (by kernel_rfl) ((S22_eq l_a l_l l_c w R).mpr hS)

def S23_ann (p : List Nat) : Option LA :=
  none

def S23_nx (t : Nat) : Option (TypeId × TypeId) := none

def S23 (h : Option Addr) (i : Int) (k : Int) (w : World) (R : Value → World → Prop) : Prop :=
  ∃ (t7 : Addr),
  h = some t7 ∧
  ∃ (t12 : Addr),
  h = some t12 ∧
  ∃ (t17 : Addr),
  h = some t17 ∧
  ∃ (t24 : Addr),
  h = some t24 ∧
  ∃ (t9_a : Option Addr) (t9_l : Nat) (t9_c : Nat),
  w.drew.cell? t7 = some (.slice t9_a t9_l t9_c) ∧
  ∃ (t14_a : Option Addr) (t14_l : Nat) (t14_c : Nat),
  w.drew.cell? t12 = some (.slice t14_a t14_l t14_c) ∧
  ∃ (t19_a : Option Addr) (t19_l : Nat) (t19_c : Nat),
  w.drew.cell? t17 = some (.slice t19_a t19_l t19_c) ∧
  ∃ (t21 : Addr),
  t19_a = some t21 ∧
  0 ≤ (k : Int) ∧
  (k : Int) < ((t19_l : Nat) : Int) ∧
  ∃ (t22_0 : Int),
  w.drew.cell? (t21.add (Int.toNat k * 3)) = some (.int .i64 t22_0) ∧
  ∃ (t22_1 : Int),
  w.drew.cell? ((t21.add (Int.toNat k * 3)).add 1) = some (.int .i64 t22_1) ∧
  ∃ (t22_2 : Int),
  w.drew.cell? ((t21.add (Int.toNat k * 3)).add 2) = some (.int .u64 t22_2) ∧
  ∃ (t26_a : Option Addr) (t26_l : Nat) (t26_c : Nat),
  w.drew.cell? t24 = some (.slice t26_a t26_l t26_c) ∧
  ∃ (t28 : Addr),
  t26_a = some t28 ∧
  0 ≤ (i : Int) ∧
  (i : Int) < ((t26_l : Nat) : Int) ∧
  ∃ (t29_0 : Int),
  w.drew.cell? (t28.add (Int.toNat i * 3)) = some (.int .i64 t29_0) ∧
  ∃ (t29_1 : Int),
  w.drew.cell? ((t28.add (Int.toNat i * 3)).add 1) = some (.int .i64 t29_1) ∧
  ∃ (t29_2 : Int),
  w.drew.cell? ((t28.add (Int.toNat i * 3)).add 2) = some (.int .u64 t29_2) ∧
  ∃ (t30 : Addr),
  t9_a = some t30 ∧
  0 ≤ (i : Int) ∧
  (i : Int) < ((t9_l : Nat) : Int) ∧
  (∃ u, w.drew.cell? (t30.add (Int.toNat i * 3)) = some u) ∧
  w.drew.frozen? (t30.add (Int.toNat i * 3)) = false ∧
  (∃ u, (w.drew.setCell (t30.add (Int.toNat i * 3)) (.int .i64 t22_0)).cell? ((t30.add (Int.toNat i * 3)).add 1) = some u) ∧
  (w.drew.setCell (t30.add (Int.toNat i * 3)) (.int .i64 t22_0)).frozen? ((t30.add (Int.toNat i * 3)).add 1) = false ∧
  (∃ u, ((w.drew.setCell (t30.add (Int.toNat i * 3)) (.int .i64 t22_0)).setCell ((t30.add (Int.toNat i * 3)).add 1) (.int .i64 t22_1)).cell? ((t30.add (Int.toNat i * 3)).add 2) = some u) ∧
  ((w.drew.setCell (t30.add (Int.toNat i * 3)) (.int .i64 t22_0)).setCell ((t30.add (Int.toNat i * 3)).add 1) (.int .i64 t22_1)).frozen? ((t30.add (Int.toNat i * 3)).add 2) = false ∧
  ∃ (t31 : Addr),
  t14_a = some t31 ∧
  0 ≤ (k : Int) ∧
  (k : Int) < ((t14_l : Nat) : Int) ∧
  (∃ u, (((w.drew.setCell (t30.add (Int.toNat i * 3)) (.int .i64 t22_0)).setCell ((t30.add (Int.toNat i * 3)).add 1) (.int .i64 t22_1)).setCell ((t30.add (Int.toNat i * 3)).add 2) (.int .u64 t22_2)).cell? (t31.add (Int.toNat k * 3)) = some u) ∧
  (((w.drew.setCell (t30.add (Int.toNat i * 3)) (.int .i64 t22_0)).setCell ((t30.add (Int.toNat i * 3)).add 1) (.int .i64 t22_1)).setCell ((t30.add (Int.toNat i * 3)).add 2) (.int .u64 t22_2)).frozen? (t31.add (Int.toNat k * 3)) = false ∧
  (∃ u, ((((w.drew.setCell (t30.add (Int.toNat i * 3)) (.int .i64 t22_0)).setCell ((t30.add (Int.toNat i * 3)).add 1) (.int .i64 t22_1)).setCell ((t30.add (Int.toNat i * 3)).add 2) (.int .u64 t22_2)).setCell (t31.add (Int.toNat k * 3)) (.int .i64 t29_0)).cell? ((t31.add (Int.toNat k * 3)).add 1) = some u) ∧
  ((((w.drew.setCell (t30.add (Int.toNat i * 3)) (.int .i64 t22_0)).setCell ((t30.add (Int.toNat i * 3)).add 1) (.int .i64 t22_1)).setCell ((t30.add (Int.toNat i * 3)).add 2) (.int .u64 t22_2)).setCell (t31.add (Int.toNat k * 3)) (.int .i64 t29_0)).frozen? ((t31.add (Int.toNat k * 3)).add 1) = false ∧
  (∃ u, (((((w.drew.setCell (t30.add (Int.toNat i * 3)) (.int .i64 t22_0)).setCell ((t30.add (Int.toNat i * 3)).add 1) (.int .i64 t22_1)).setCell ((t30.add (Int.toNat i * 3)).add 2) (.int .u64 t22_2)).setCell (t31.add (Int.toNat k * 3)) (.int .i64 t29_0)).setCell ((t31.add (Int.toNat k * 3)).add 1) (.int .i64 t29_1)).cell? ((t31.add (Int.toNat k * 3)).add 2) = some u) ∧
  (((((w.drew.setCell (t30.add (Int.toNat i * 3)) (.int .i64 t22_0)).setCell ((t30.add (Int.toNat i * 3)).add 1) (.int .i64 t22_1)).setCell ((t30.add (Int.toNat i * 3)).add 2) (.int .u64 t22_2)).setCell (t31.add (Int.toNat k * 3)) (.int .i64 t29_0)).setCell ((t31.add (Int.toNat k * 3)).add 1) (.int .i64 t29_1)).frozen? ((t31.add (Int.toNat k * 3)).add 2) = false ∧
  R (.tuple ⟨[]⟩) ((((((w.drew.setCell (t30.add (Int.toNat i * 3)) (.int .i64 t22_0)).setCell ((t30.add (Int.toNat i * 3)).add 1) (.int .i64 t22_1)).setCell ((t30.add (Int.toNat i * 3)).add 2) (.int .u64 t22_2)).setCell (t31.add (Int.toNat k * 3)) (.int .i64 t29_0)).setCell ((t31.add (Int.toNat k * 3)).add 1) (.int .i64 t29_1)).setCell ((t31.add (Int.toNat k * 3)).add 2) (.int .u64 t29_2))

theorem S23_eq (h : Option Addr) (i : Int) (k : Int) (w : World) (R : Value → World → Prop) : Eng.R Try.prog ⟨cal, S23_nx⟩ 32 S23_ann [] (Try.f23.body.getD .skip) (bodyQ Try.prog #[] R) (argE [(.pointer h), (.int .i64 i), (.int .i64 k)]) w = S23 h i k w R := by kernel_rfl
/-- A call of '(*carfax/heap.Heap).swap', by its condition. -/
theorem S23_calls {h : Option Addr} {i : Int} {k : Int} {w : World} {R : Value → World → Prop} (hS : S23 h i k w R) : Ret Try.prog 23 [(.pointer h), (.int .i64 i), (.int .i64 k)] w R :=
  R_calls (C := ⟨cal, S23_nx⟩) cal_ok follows Try.func23 (c := Try.f23.body.getD .skip) (res := #[]) (n := 32) (by kernel_rfl) (by kernel_rfl) (by kernel_rfl) (by kernel_rfl) ((S23_eq h i k w R).mpr hS)

def S24_ann (p : List Nat) : Option LA := match p with
  | [0, 1] => some ⟨[0, 4], [(1, .one (.int .i64))]⟩
  | [0, 1, 0, 1, 0, 0, 0, 1] => some ⟨[0, 1, 4, 17], [(5, .one (.int .i64)), (18, .one (.int .i64))]⟩
  | _ => none

def S24_nx (t : Nat) : Option (TypeId × TypeId) := none

def S24_k3 (h : Option Addr) (i : Int) (swap_f0 : Option Addr) (least : Int) (k : Int) (t17_0 : Int) (t17_1 : Int) (t18 : Int) (t44 : Bool) (w : World) (R : Value → World → Prop) (B1 : (Int) × Unit → World → Prop) (B2 : (Int) × (Int) × Unit → World → Prop) : Prop :=
  cond t44 (
    B2 (k, (IntKind.i64.wrap (t18 + 1)), ()) w
  ) (
    B2 (least, (IntKind.i64.wrap (t18 + 1)), ()) w
  )

def S24_k2 (h : Option Addr) (i : Int) (swap_f0 : Option Addr) (least : Int) (t17_0 : Int) (t17_1 : Int) (t18 : Int) (w : World) (R : Value → World → Prop) (B1 : (Int) × Unit → World → Prop) (B2 : (Int) × (Int) × Unit → World → Prop) : Prop :=
  0 ≤ (t18 : Int) ∧
  (t18 : Int) < ((2 : Nat) : Int) ∧
  (t18 = ((0 : Nat) : Int) →
    ∃ (t23 : Addr),
    h = some t23 ∧
    ∃ (t25_a : Option Addr) (t25_l : Nat) (t25_c : Nat),
    w.drew.cell? t23 = some (.slice t25_a t25_l t25_c) ∧
    cond (decide ((t17_0 : Int) < ((t25_l : Nat) : Int))) (
      ∃ (t30 : Addr),
      h = some t30 ∧
      ∃ (t37 : Addr),
      h = some t37 ∧
      ∃ (t32_a : Option Addr) (t32_l : Nat) (t32_c : Nat),
      w.drew.cell? t30 = some (.slice t32_a t32_l t32_c) ∧
      ∃ (t34 : Addr),
      t32_a = some t34 ∧
      0 ≤ (t17_0 : Int) ∧
      (t17_0 : Int) < ((t32_l : Nat) : Int) ∧
      ∃ (t35_0 : Int),
      w.drew.cell? (t34.add (Int.toNat t17_0 * 3)) = some (.int .i64 t35_0) ∧
      ∃ (t35_1 : Int),
      w.drew.cell? ((t34.add (Int.toNat t17_0 * 3)).add 1) = some (.int .i64 t35_1) ∧
      ∃ (t35_2 : Int),
      w.drew.cell? ((t34.add (Int.toNat t17_0 * 3)).add 2) = some (.int .u64 t35_2) ∧
      ∃ (t39_a : Option Addr) (t39_l : Nat) (t39_c : Nat),
      w.drew.cell? t37 = some (.slice t39_a t39_l t39_c) ∧
      ∃ (t41 : Addr),
      t39_a = some t41 ∧
      0 ≤ (least : Int) ∧
      (least : Int) < ((t39_l : Nat) : Int) ∧
      ∃ (t42_0 : Int),
      w.drew.cell? (t41.add (Int.toNat least * 3)) = some (.int .i64 t42_0) ∧
      ∃ (t42_1 : Int),
      w.drew.cell? ((t41.add (Int.toNat least * 3)).add 1) = some (.int .i64 t42_1) ∧
      ∃ (t42_2 : Int),
      w.drew.cell? ((t41.add (Int.toNat least * 3)).add 2) = some (.int .u64 t42_2) ∧
      Calls Try.prog 26 ⟨[(.agg ⟨[(.int .i64 t35_0), (.int .i64 t35_1), (.int .u64 t35_2)]⟩), (.agg ⟨[(.int .i64 t42_0), (.int .i64 t42_1), (.int .u64 t42_2)]⟩)]⟩ w.drew fun e w_ =>
        ∃ (t43 : Bool),
        e = .returned (.bool t43) ∧
        S24_k3 h i swap_f0 least t17_0 t17_0 t17_1 t18 t43 w_ R B1 B2
    ) (
      S24_k3 h i swap_f0 least t17_0 t17_0 t17_1 t18 false w.drew R B1 B2
    )) ∧
  (t18 = ((1 : Nat) : Int) →
    ∃ (t23_1 : Addr),
    h = some t23_1 ∧
    ∃ (t25_a_1 : Option Addr) (t25_l_1 : Nat) (t25_c_1 : Nat),
    w.drew.cell? t23_1 = some (.slice t25_a_1 t25_l_1 t25_c_1) ∧
    cond (decide ((t17_1 : Int) < ((t25_l_1 : Nat) : Int))) (
      ∃ (t30_1 : Addr),
      h = some t30_1 ∧
      ∃ (t37_1 : Addr),
      h = some t37_1 ∧
      ∃ (t32_a_1 : Option Addr) (t32_l_1 : Nat) (t32_c_1 : Nat),
      w.drew.cell? t30_1 = some (.slice t32_a_1 t32_l_1 t32_c_1) ∧
      ∃ (t34_1 : Addr),
      t32_a_1 = some t34_1 ∧
      0 ≤ (t17_1 : Int) ∧
      (t17_1 : Int) < ((t32_l_1 : Nat) : Int) ∧
      ∃ (t35_0_1 : Int),
      w.drew.cell? (t34_1.add (Int.toNat t17_1 * 3)) = some (.int .i64 t35_0_1) ∧
      ∃ (t35_1_1 : Int),
      w.drew.cell? ((t34_1.add (Int.toNat t17_1 * 3)).add 1) = some (.int .i64 t35_1_1) ∧
      ∃ (t35_2_1 : Int),
      w.drew.cell? ((t34_1.add (Int.toNat t17_1 * 3)).add 2) = some (.int .u64 t35_2_1) ∧
      ∃ (t39_a_1 : Option Addr) (t39_l_1 : Nat) (t39_c_1 : Nat),
      w.drew.cell? t37_1 = some (.slice t39_a_1 t39_l_1 t39_c_1) ∧
      ∃ (t41_1 : Addr),
      t39_a_1 = some t41_1 ∧
      0 ≤ (least : Int) ∧
      (least : Int) < ((t39_l_1 : Nat) : Int) ∧
      ∃ (t42_0_1 : Int),
      w.drew.cell? (t41_1.add (Int.toNat least * 3)) = some (.int .i64 t42_0_1) ∧
      ∃ (t42_1_1 : Int),
      w.drew.cell? ((t41_1.add (Int.toNat least * 3)).add 1) = some (.int .i64 t42_1_1) ∧
      ∃ (t42_2_1 : Int),
      w.drew.cell? ((t41_1.add (Int.toNat least * 3)).add 2) = some (.int .u64 t42_2_1) ∧
      Calls Try.prog 26 ⟨[(.agg ⟨[(.int .i64 t35_0_1), (.int .i64 t35_1_1), (.int .u64 t35_2_1)]⟩), (.agg ⟨[(.int .i64 t42_0_1), (.int .i64 t42_1_1), (.int .u64 t42_2_1)]⟩)]⟩ w.drew fun e w__1 =>
        ∃ (t43_1 : Bool),
        e = .returned (.bool t43_1) ∧
        S24_k3 h i swap_f0 least t17_1 t17_0 t17_1 t18 t43_1 w__1 R B1 B2
    ) (
      S24_k3 h i swap_f0 least t17_1 t17_0 t17_1 t18 false w.drew R B1 B2
    ))

def S24_k5 (h : Option Addr) (i : Int) (swap_f0 : Option Addr) (least : Int) (w : World) (R : Value → World → Prop) (B1 : (Int) × Unit → World → Prop) : Prop :=
  Calls Try.prog 23 ⟨[(.pointer swap_f0), (.int .i64 i), (.int .i64 least)]⟩ w fun e w_ =>
    e = .returned (.tuple ⟨[]⟩) ∧
    B1 (least, ()) w_

def S24_k4 (h : Option Addr) (i : Int) (swap_f0 : Option Addr) (least : Int) (w : World) (R : Value → World → Prop) (B1 : (Int) × Unit → World → Prop) : Prop :=
  cond (decide ((least : Int) = i)) (
    R (.tuple ⟨[]⟩) w
  ) (
    S24_k5 h i swap_f0 least w R B1
  )

def S24_L1 (h : Option Addr) (i : Int) (swap_f0 : Option Addr) (least : Int) (t17_0 : Int) (t17_1 : Int) (t18 : Int) (w : World) (R : Value → World → Prop) (B1 : (Int) × Unit → World → Prop) (B2 : (Int) × (Int) × Unit → World → Prop) : Prop :=
  cond (decide ((t18 : Int) < 2)) (
    S24_k2 h i swap_f0 least t17_0 t17_1 t18 w R B1 B2
  ) (
    S24_k4 h i swap_f0 least w R B1
  )

def S24_L0 (h : Option Addr) (i : Int) (swap_f0 : Option Addr) (w : World) (R : Value → World → Prop) (B1 : (Int) × Unit → World → Prop) : Prop :=
  ∃ (I : (Int) × (Int) × Unit → World → Prop) (μ : (Int) × (Int) × Unit → World → Nat),
  I (i, 0, ()) w ∧
  ∀ (J : Env) (s : (Int) × (Int) × Unit) (w' : World), I s w' →
    S24_L1 h i swap_f0 s.1 (IntKind.i64.wrap ((IntKind.i64.wrap (2 * i)) + 1)) (IntKind.i64.wrap ((IntKind.i64.wrap (2 * i)) + 2)) s.2.1 w' R B1 (fun s' w'' => I s' w'' ∧ μ s' w'' < μ s w')

def S24 (h : Option Addr) (i : Int) (w : World) (R : Value → World → Prop) : Prop :=
  ∃ (I : (Int) × Unit → World → Prop) (μ : (Int) × Unit → World → Nat),
  I (i, ()) w ∧
  ∀ (J : Env) (s : (Int) × Unit) (w' : World), I s w' →
    S24_L0 h s.1 h w' R (fun s' w'' => I s' w'' ∧ μ s' w'' < μ s w')

theorem S24_eq (h : Option Addr) (i : Int) (w : World) (R : Value → World → Prop) : Eng.R Try.prog ⟨cal, S24_nx⟩ 55 S24_ann [] (Try.f24.body.getD .skip) (bodyQ Try.prog #[] R) (argE [(.pointer h), (.int .i64 i)]) w = S24 h i w R := by kernel_rfl
/-- A call of '(*carfax/heap.Heap).down', by its condition. -/
theorem S24_calls {h : Option Addr} {i : Int} {w : World} {R : Value → World → Prop} (hS : S24 h i w R) : Ret Try.prog 24 [(.pointer h), (.int .i64 i)] w R :=
  R_calls (C := ⟨cal, S24_nx⟩) cal_ok follows Try.func24 (c := Try.f24.body.getD .skip) (res := #[]) (n := 55) (by kernel_rfl) (by kernel_rfl) (by kernel_rfl) (by kernel_rfl) ((S24_eq h i w R).mpr hS)

def S25_ann (p : List Nat) : Option LA := match p with
  | [0, 1] => some ⟨[0, 4], [(1, .one (.int .i64))]⟩
  | _ => none

def S25_nx (t : Nat) : Option (TypeId × TypeId) := none

def S25_k2 (h : Option Addr) (i : Int) (w : World) (R : Value → World → Prop) (B1 : (Int) × Unit → World → Prop) : Prop :=
  (2 : Int) ≠ 0 ∧
  Calls Try.prog 23 ⟨[(.pointer h), (.int .i64 i), (.int .i64 (IntKind.i64.wrap (Int.tdiv (IntKind.i64.wrap (i - 1)) 2)))]⟩ w fun e w_ =>
    e = .returned (.tuple ⟨[]⟩) ∧
    (2 : Int) ≠ 0 ∧
    B1 ((IntKind.i64.wrap (Int.tdiv (IntKind.i64.wrap (i - 1)) 2)), ()) w_

def S25_k1 (h : Option Addr) (i : Int) (t26 : Bool) (w : World) (R : Value → World → Prop) (B1 : (Int) × Unit → World → Prop) : Prop :=
  cond t26 (
    S25_k2 h i w R B1
  ) (
    R (.tuple ⟨[]⟩) w
  )

def S25_L0 (h : Option Addr) (i : Int) (w : World) (R : Value → World → Prop) (B1 : (Int) × Unit → World → Prop) : Prop :=
  cond (decide ((0 : Int) < i)) (
    ∃ (t10 : Addr),
    h = some t10 ∧
    ∃ (t17 : Addr),
    h = some t17 ∧
    (2 : Int) ≠ 0 ∧
    ∃ (t12_a : Option Addr) (t12_l : Nat) (t12_c : Nat),
    w.drew.cell? t10 = some (.slice t12_a t12_l t12_c) ∧
    ∃ (t14 : Addr),
    t12_a = some t14 ∧
    0 ≤ (i : Int) ∧
    (i : Int) < ((t12_l : Nat) : Int) ∧
    ∃ (t15_0 : Int),
    w.drew.cell? (t14.add (Int.toNat i * 3)) = some (.int .i64 t15_0) ∧
    ∃ (t15_1 : Int),
    w.drew.cell? ((t14.add (Int.toNat i * 3)).add 1) = some (.int .i64 t15_1) ∧
    ∃ (t15_2 : Int),
    w.drew.cell? ((t14.add (Int.toNat i * 3)).add 2) = some (.int .u64 t15_2) ∧
    ∃ (t19_a : Option Addr) (t19_l : Nat) (t19_c : Nat),
    w.drew.cell? t17 = some (.slice t19_a t19_l t19_c) ∧
    ∃ (t23 : Addr),
    t19_a = some t23 ∧
    0 ≤ ((IntKind.i64.wrap (Int.tdiv (IntKind.i64.wrap (i - 1)) 2)) : Int) ∧
    ((IntKind.i64.wrap (Int.tdiv (IntKind.i64.wrap (i - 1)) 2)) : Int) < ((t19_l : Nat) : Int) ∧
    ∃ (t24_0 : Int),
    w.drew.cell? (t23.add (Int.toNat (IntKind.i64.wrap (Int.tdiv (IntKind.i64.wrap (i - 1)) 2)) * 3)) = some (.int .i64 t24_0) ∧
    ∃ (t24_1 : Int),
    w.drew.cell? ((t23.add (Int.toNat (IntKind.i64.wrap (Int.tdiv (IntKind.i64.wrap (i - 1)) 2)) * 3)).add 1) = some (.int .i64 t24_1) ∧
    ∃ (t24_2 : Int),
    w.drew.cell? ((t23.add (Int.toNat (IntKind.i64.wrap (Int.tdiv (IntKind.i64.wrap (i - 1)) 2)) * 3)).add 2) = some (.int .u64 t24_2) ∧
    Calls Try.prog 26 ⟨[(.agg ⟨[(.int .i64 t15_0), (.int .i64 t15_1), (.int .u64 t15_2)]⟩), (.agg ⟨[(.int .i64 t24_0), (.int .i64 t24_1), (.int .u64 t24_2)]⟩)]⟩ w.drew fun e w_ =>
      ∃ (t25 : Bool),
      e = .returned (.bool t25) ∧
      S25_k1 h i t25 w_ R B1
  ) (
    S25_k1 h i false w.drew R B1
  )

def S25 (h : Option Addr) (i : Int) (w : World) (R : Value → World → Prop) : Prop :=
  ∃ (I : (Int) × Unit → World → Prop) (μ : (Int) × Unit → World → Nat),
  I (i, ()) w ∧
  ∀ (J : Env) (s : (Int) × Unit) (w' : World), I s w' →
    S25_L0 h s.1 w' R (fun s' w'' => I s' w'' ∧ μ s' w'' < μ s w')

theorem S25_eq (h : Option Addr) (i : Int) (w : World) (R : Value → World → Prop) : Eng.R Try.prog ⟨cal, S25_nx⟩ 36 S25_ann [] (Try.f25.body.getD .skip) (bodyQ Try.prog #[] R) (argE [(.pointer h), (.int .i64 i)]) w = S25 h i w R := by kernel_rfl
/-- A call of '(*carfax/heap.Heap).up', by its condition. -/
theorem S25_calls {h : Option Addr} {i : Int} {w : World} {R : Value → World → Prop} (hS : S25 h i w R) : Ret Try.prog 25 [(.pointer h), (.int .i64 i)] w R :=
  R_calls (C := ⟨cal, S25_nx⟩) cal_ok follows Try.func25 (c := Try.f25.body.getD .skip) (res := #[]) (n := 36) (by kernel_rfl) (by kernel_rfl) (by kernel_rfl) (by kernel_rfl) ((S25_eq h i w R).mpr hS)

def S26_ann (p : List Nat) : Option LA :=
  none

def S26_nx (t : Nat) : Option (TypeId × TypeId) := none

def S26_k0 (a : Addr) (b : Addr) (w : World) (R : Value → World → Prop) : Prop :=
  ∃ (t20 : Int),
  w.cell? (a.add 2) = some (.int .u64 t20) ∧
  ∃ (t22 : Int),
  w.cell? (b.add 2) = some (.int .u64 t22) ∧
  R (.bool (decide ((t20 : Int) < t22))) w

def S26 (a_0 : Int) (a_1 : Int) (a_2 : Int) (b_0 : Int) (b_1 : Int) (b_2 : Int) (w : World) (R : Value → World → Prop) : Prop :=
  ∃ (t7 : Int),
  ((w.alloc (.cells ⟨[(.int .i64 a_0), (.int .i64 a_1), (.int .u64 a_2)]⟩ 56)).alloc (.cells ⟨[(.int .i64 b_0), (.int .i64 b_1), (.int .u64 b_2)]⟩ 56)).cell? ⟨w.heap.size, 0, none⟩ = some (.int .i64 t7) ∧
  ∃ (t10 : Int),
  ((w.alloc (.cells ⟨[(.int .i64 a_0), (.int .i64 a_1), (.int .u64 a_2)]⟩ 56)).alloc (.cells ⟨[(.int .i64 b_0), (.int .i64 b_1), (.int .u64 b_2)]⟩ 56)).cell? ⟨(w.alloc (.cells ⟨[(.int .i64 a_0), (.int .i64 a_1), (.int .u64 a_2)]⟩ 56)).heap.size, 0, none⟩ = some (.int .i64 t10) ∧
  cond (!decide ((t7 : Int) = t10)) (
    ∃ (t14 : Int),
    ((w.alloc (.cells ⟨[(.int .i64 a_0), (.int .i64 a_1), (.int .u64 a_2)]⟩ 56)).alloc (.cells ⟨[(.int .i64 b_0), (.int .i64 b_1), (.int .u64 b_2)]⟩ 56)).cell? ⟨w.heap.size, 0, none⟩ = some (.int .i64 t14) ∧
    ∃ (t17 : Int),
    ((w.alloc (.cells ⟨[(.int .i64 a_0), (.int .i64 a_1), (.int .u64 a_2)]⟩ 56)).alloc (.cells ⟨[(.int .i64 b_0), (.int .i64 b_1), (.int .u64 b_2)]⟩ 56)).cell? ⟨(w.alloc (.cells ⟨[(.int .i64 a_0), (.int .i64 a_1), (.int .u64 a_2)]⟩ 56)).heap.size, 0, none⟩ = some (.int .i64 t17) ∧
    R (.bool (decide ((t14 : Int) < t17))) ((w.alloc (.cells ⟨[(.int .i64 a_0), (.int .i64 a_1), (.int .u64 a_2)]⟩ 56)).alloc (.cells ⟨[(.int .i64 b_0), (.int .i64 b_1), (.int .u64 b_2)]⟩ 56))
  ) (
    S26_k0 ⟨w.heap.size, 0, none⟩ ⟨(w.alloc (.cells ⟨[(.int .i64 a_0), (.int .i64 a_1), (.int .u64 a_2)]⟩ 56)).heap.size, 0, none⟩ ((w.alloc (.cells ⟨[(.int .i64 a_0), (.int .i64 a_1), (.int .u64 a_2)]⟩ 56)).alloc (.cells ⟨[(.int .i64 b_0), (.int .i64 b_1), (.int .u64 b_2)]⟩ 56)) R
  )

theorem S26_eq (a_0 : Int) (a_1 : Int) (a_2 : Int) (b_0 : Int) (b_1 : Int) (b_2 : Int) (w : World) (R : Value → World → Prop) : Eng.R Try.prog ⟨cal, S26_nx⟩ 24 S26_ann [] (Try.f26.body.getD .skip) (bodyQ Try.prog #[.tmp 4] R) (argE [(.agg ⟨[(.int .i64 a_0), (.int .i64 a_1), (.int .u64 a_2)]⟩), (.agg ⟨[(.int .i64 b_0), (.int .i64 b_1), (.int .u64 b_2)]⟩)]) w = S26 a_0 a_1 a_2 b_0 b_1 b_2 w R := by kernel_rfl
/-- A call of '(carfax/heap.entry).less', by its condition. -/
theorem S26_calls {a_0 : Int} {a_1 : Int} {a_2 : Int} {b_0 : Int} {b_1 : Int} {b_2 : Int} {w : World} {R : Value → World → Prop} (hS : S26 a_0 a_1 a_2 b_0 b_1 b_2 w R) : Ret Try.prog 26 [(.agg ⟨[(.int .i64 a_0), (.int .i64 a_1), (.int .u64 a_2)]⟩), (.agg ⟨[(.int .i64 b_0), (.int .i64 b_1), (.int .u64 b_2)]⟩)] w R :=
  R_calls (C := ⟨cal, S26_nx⟩) cal_ok follows Try.func26 (c := Try.f26.body.getD .skip) (res := #[.tmp 4]) (n := 24) (by kernel_rfl) (by kernel_rfl) (by kernel_rfl) (by kernel_rfl) ((S26_eq a_0 a_1 a_2 b_0 b_1 b_2 w R).mpr hS)

end Go.Proofs
