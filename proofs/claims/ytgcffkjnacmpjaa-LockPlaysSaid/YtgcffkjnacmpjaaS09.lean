import Derived.Test.YtgcffkjnacmpjaaProg
import Derived.Test.YtgcffkjnacmpjaaEng8
set_option linter.unusedVariables false
set_option maxRecDepth 100000
namespace Go.Proofs
open Go Go.Eng
def cal (f : FuncId) : Bool := Nat.ble 3 f && Nat.blt f 25
theorem cal_all : (List.range 25).all (fun f => !cal f || callable Try.prog f) = true := by kernel_rfl
theorem cal_ok (f : FuncId) (h : cal f = true) : callable Try.prog f = true := by
  have hb := h
  simp only [cal, Bool.and_eq_true, Nat.blt_eq] at hb
  have := List.all_eq_true.1 cal_all f (List.mem_range.2 hb.2)
  rw [h] at this
  simpa using this
theorem follows : Try.prog.follows .mixedOrders = true := by kernel_rfl

def S3_ann (p : List Nat) : Option LA := match p with
  | [0, 1, 0, 1, 1, 1, 1] => some ⟨[1, 2, 7, 8, 20, 21], [(22, .one (.int .i64))]⟩
  | [0, 1, 0, 1, 1, 1, 1, 1, 1, 1] => some ⟨[7, 8, 11, 12, 37, 38], [(39, .one (.int .i64))]⟩
  | _ => none

def S3_nx (t : Nat) : Option (TypeId × TypeId) := none

def S3_k2 (more_a : Option Addr) (more_l : Nat) (more_c : Nat) (robot : Int) (head : Bool) (t : Option Addr) (t20_a : Option Addr) (t20_l : Nat) (t20_c : Nat) (t21 : Int) (t22 : Int) (w : World) (R : Value → World → Prop) (B1 : (Int) × Unit → World → Prop) : Prop :=
  ∃ (t24 : Addr),
  t20_a = some t24 ∧
  0 ≤ (t22 : Int) ∧
  (t22 : Int) < ((t20_l : Nat) : Int) ∧
  ∃ (t25_0 : Bool),
  w.cell? (t24.add (Int.toNat t22 * 3)) = some (.bool t25_0) ∧
  ∃ (t25_1 : Int),
  w.cell? ((t24.add (Int.toNat t22 * 3)).add 1) = some (.int .i64 t25_1) ∧
  ∃ (t25_2 : Int),
  w.cell? ((t24.add (Int.toNat t22 * 3)).add 2) = some (.int .i64 t25_2) ∧
  (∃ u, (w.alloc (.cells ⟨[(.bool false), (.int .i64 0), (.int .i64 0)]⟩ 28)).cell? ⟨w.heap.size, 0, none⟩ = some u) ∧
  (w.alloc (.cells ⟨[(.bool false), (.int .i64 0), (.int .i64 0)]⟩ 28)).frozen? ⟨w.heap.size, 0, none⟩ = false ∧
  (∃ u, ((w.alloc (.cells ⟨[(.bool false), (.int .i64 0), (.int .i64 0)]⟩ 28)).setCell ⟨w.heap.size, 0, none⟩ (.bool t25_0)).cell? ⟨w.heap.size, 1, none⟩ = some u) ∧
  ((w.alloc (.cells ⟨[(.bool false), (.int .i64 0), (.int .i64 0)]⟩ 28)).setCell ⟨w.heap.size, 0, none⟩ (.bool t25_0)).frozen? ⟨w.heap.size, 1, none⟩ = false ∧
  (∃ u, (((w.alloc (.cells ⟨[(.bool false), (.int .i64 0), (.int .i64 0)]⟩ 28)).setCell ⟨w.heap.size, 0, none⟩ (.bool t25_0)).setCell ⟨w.heap.size, 1, none⟩ (.int .i64 t25_1)).cell? ⟨w.heap.size, 2, none⟩ = some u) ∧
  (((w.alloc (.cells ⟨[(.bool false), (.int .i64 0), (.int .i64 0)]⟩ 28)).setCell ⟨w.heap.size, 0, none⟩ (.bool t25_0)).setCell ⟨w.heap.size, 1, none⟩ (.int .i64 t25_1)).frozen? ⟨w.heap.size, 2, none⟩ = false ∧
  ∃ (t27_0 : Bool),
  ((((w.alloc (.cells ⟨[(.bool false), (.int .i64 0), (.int .i64 0)]⟩ 28)).setCell ⟨w.heap.size, 0, none⟩ (.bool t25_0)).setCell ⟨w.heap.size, 1, none⟩ (.int .i64 t25_1)).setCell ⟨w.heap.size, 2, none⟩ (.int .i64 t25_2)).cell? ⟨w.heap.size, 0, none⟩ = some (.bool t27_0) ∧
  ∃ (t27_1 : Int),
  ((((w.alloc (.cells ⟨[(.bool false), (.int .i64 0), (.int .i64 0)]⟩ 28)).setCell ⟨w.heap.size, 0, none⟩ (.bool t25_0)).setCell ⟨w.heap.size, 1, none⟩ (.int .i64 t25_1)).setCell ⟨w.heap.size, 2, none⟩ (.int .i64 t25_2)).cell? ⟨w.heap.size, 1, none⟩ = some (.int .i64 t27_1) ∧
  ∃ (t27_2 : Int),
  ((((w.alloc (.cells ⟨[(.bool false), (.int .i64 0), (.int .i64 0)]⟩ 28)).setCell ⟨w.heap.size, 0, none⟩ (.bool t25_0)).setCell ⟨w.heap.size, 1, none⟩ (.int .i64 t25_1)).setCell ⟨w.heap.size, 2, none⟩ (.int .i64 t25_2)).cell? ⟨w.heap.size, 2, none⟩ = some (.int .i64 t27_2) ∧
  Calls Try.prog 10 ⟨[(.pointer t), (.agg ⟨[(.bool t27_0), (.int .i64 t27_1), (.int .i64 t27_2)]⟩)]⟩ ((((w.alloc (.cells ⟨[(.bool false), (.int .i64 0), (.int .i64 0)]⟩ 28)).setCell ⟨w.heap.size, 0, none⟩ (.bool t25_0)).setCell ⟨w.heap.size, 1, none⟩ (.int .i64 t25_1)).setCell ⟨w.heap.size, 2, none⟩ (.int .i64 t25_2)) fun e w_ =>
    ∃ (t28 : Int),
    e = .returned (.int .i64 t28) ∧
    B1 ((IntKind.i64.wrap (t22 + 1)), ()) w_

def S3_k5 (head : Bool) (t : Option Addr) (who : Int) (was_a : Option Addr) (was_l : Nat) (was_c : Nat) (t37_a : Option Addr) (t37_l : Nat) (t37_c : Nat) (t38 : Int) (t39 : Int) (w : World) (R : Value → World → Prop) (B1 : (Int) × Unit → World → Prop) : Prop :=
  ∃ (t41 : Addr),
  t37_a = some t41 ∧
  0 ≤ (t39 : Int) ∧
  (t39 : Int) < ((t37_l : Nat) : Int) ∧
  ∃ (t42_0 : Bool),
  w.cell? (t41.add (Int.toNat t39 * 3)) = some (.bool t42_0) ∧
  ∃ (t42_1 : Int),
  w.cell? ((t41.add (Int.toNat t39 * 3)).add 1) = some (.int .i64 t42_1) ∧
  ∃ (t42_2 : Int),
  w.cell? ((t41.add (Int.toNat t39 * 3)).add 2) = some (.int .i64 t42_2) ∧
  (∃ u, (w.alloc (.cells ⟨[(.bool false), (.int .i64 0), (.int .i64 0)]⟩ 28)).cell? ⟨w.heap.size, 0, none⟩ = some u) ∧
  (w.alloc (.cells ⟨[(.bool false), (.int .i64 0), (.int .i64 0)]⟩ 28)).frozen? ⟨w.heap.size, 0, none⟩ = false ∧
  (∃ u, ((w.alloc (.cells ⟨[(.bool false), (.int .i64 0), (.int .i64 0)]⟩ 28)).setCell ⟨w.heap.size, 0, none⟩ (.bool t42_0)).cell? ⟨w.heap.size, 1, none⟩ = some u) ∧
  ((w.alloc (.cells ⟨[(.bool false), (.int .i64 0), (.int .i64 0)]⟩ 28)).setCell ⟨w.heap.size, 0, none⟩ (.bool t42_0)).frozen? ⟨w.heap.size, 1, none⟩ = false ∧
  (∃ u, (((w.alloc (.cells ⟨[(.bool false), (.int .i64 0), (.int .i64 0)]⟩ 28)).setCell ⟨w.heap.size, 0, none⟩ (.bool t42_0)).setCell ⟨w.heap.size, 1, none⟩ (.int .i64 t42_1)).cell? ⟨w.heap.size, 2, none⟩ = some u) ∧
  (((w.alloc (.cells ⟨[(.bool false), (.int .i64 0), (.int .i64 0)]⟩ 28)).setCell ⟨w.heap.size, 0, none⟩ (.bool t42_0)).setCell ⟨w.heap.size, 1, none⟩ (.int .i64 t42_1)).frozen? ⟨w.heap.size, 2, none⟩ = false ∧
  ∃ (t44 : Int),
  ((((w.alloc (.cells ⟨[(.bool false), (.int .i64 0), (.int .i64 0)]⟩ 28)).setCell ⟨w.heap.size, 0, none⟩ (.bool t42_0)).setCell ⟨w.heap.size, 1, none⟩ (.int .i64 t42_1)).setCell ⟨w.heap.size, 2, none⟩ (.int .i64 t42_2)).cell? ⟨w.heap.size, 1, none⟩ = some (.int .i64 t44) ∧
  cond (!decide ((t44 : Int) = who)) (
    ∃ (t48_0 : Bool),
    ((((w.alloc (.cells ⟨[(.bool false), (.int .i64 0), (.int .i64 0)]⟩ 28)).setCell ⟨w.heap.size, 0, none⟩ (.bool t42_0)).setCell ⟨w.heap.size, 1, none⟩ (.int .i64 t42_1)).setCell ⟨w.heap.size, 2, none⟩ (.int .i64 t42_2)).cell? ⟨w.heap.size, 0, none⟩ = some (.bool t48_0) ∧
    ∃ (t48_1 : Int),
    ((((w.alloc (.cells ⟨[(.bool false), (.int .i64 0), (.int .i64 0)]⟩ 28)).setCell ⟨w.heap.size, 0, none⟩ (.bool t42_0)).setCell ⟨w.heap.size, 1, none⟩ (.int .i64 t42_1)).setCell ⟨w.heap.size, 2, none⟩ (.int .i64 t42_2)).cell? ⟨w.heap.size, 1, none⟩ = some (.int .i64 t48_1) ∧
    ∃ (t48_2 : Int),
    ((((w.alloc (.cells ⟨[(.bool false), (.int .i64 0), (.int .i64 0)]⟩ 28)).setCell ⟨w.heap.size, 0, none⟩ (.bool t42_0)).setCell ⟨w.heap.size, 1, none⟩ (.int .i64 t42_1)).setCell ⟨w.heap.size, 2, none⟩ (.int .i64 t42_2)).cell? ⟨w.heap.size, 2, none⟩ = some (.int .i64 t48_2) ∧
    Calls Try.prog 10 ⟨[(.pointer t), (.agg ⟨[(.bool t48_0), (.int .i64 t48_1), (.int .i64 t48_2)]⟩)]⟩ ((((w.alloc (.cells ⟨[(.bool false), (.int .i64 0), (.int .i64 0)]⟩ 28)).setCell ⟨w.heap.size, 0, none⟩ (.bool t42_0)).setCell ⟨w.heap.size, 1, none⟩ (.int .i64 t42_1)).setCell ⟨w.heap.size, 2, none⟩ (.int .i64 t42_2)) fun e w_ =>
      ∃ (t49 : Int),
      e = .returned (.int .i64 t49) ∧
      B1 ((IntKind.i64.wrap (t39 + 1)), ()) w_
  ) (
    B1 ((IntKind.i64.wrap (t39 + 1)), ()) ((((w.alloc (.cells ⟨[(.bool false), (.int .i64 0), (.int .i64 0)]⟩ 28)).setCell ⟨w.heap.size, 0, none⟩ (.bool t42_0)).setCell ⟨w.heap.size, 1, none⟩ (.int .i64 t42_1)).setCell ⟨w.heap.size, 2, none⟩ (.int .i64 t42_2))
  )

def S3_k6 (head : Bool) (t : Option Addr) (who : Int) (was_a : Option Addr) (was_l : Nat) (was_c : Nat) (w : World) (R : Value → World → Prop) : Prop :=
  cond head (
    Calls Try.prog 11 ⟨[(.pointer t), (.int .i64 who)]⟩ w fun e w_ =>
      ∃ (t55_a : Option Addr) (t55_l : Nat) (t55_c : Nat),
      e = .returned (.slice t55_a t55_l t55_c) ∧
      Calls Try.prog 12 ⟨[(.slice t55_a t55_l t55_c), (.slice was_a was_l was_c)]⟩ w_ fun e w__1 =>
        ∃ (t57 : Bool),
        e = .returned (.bool t57) ∧
        R (.bool t57) w__1
  ) (
    R (.bool false) w
  )

def S3_L4 (head : Bool) (t : Option Addr) (who : Int) (was_a : Option Addr) (was_l : Nat) (was_c : Nat) (t37_a : Option Addr) (t37_l : Nat) (t37_c : Nat) (t38 : Int) (t39 : Int) (w : World) (R : Value → World → Prop) (B1 : (Int) × Unit → World → Prop) : Prop :=
  cond (decide ((t39 : Int) < t38)) (
    S3_k5 head t who was_a was_l was_c t37_a t37_l t37_c t38 t39 w R B1
  ) (
    S3_k6 head t who was_a was_l was_c w R
  )

def S3_k3 (more_a : Option Addr) (more_l : Nat) (more_c : Nat) (robot : Int) (head : Bool) (t : Option Addr) (w : World) (R : Value → World → Prop) : Prop :=
  (8 : Int) ≠ 0 ∧
  Calls Try.prog 11 ⟨[(.pointer t), (.int .i64 (IntKind.i64.wrap (Int.tmod robot 8)))]⟩ w fun e w_ =>
    ∃ (t35_a : Option Addr) (t35_l : Nat) (t35_c : Nat),
    e = .returned (.slice t35_a t35_l t35_c) ∧
    Calls Try.prog 9 ⟨[(.slice more_a more_l more_c)]⟩ w_ fun e w__1 =>
      ∃ (t37_a : Option Addr) (t37_l : Nat) (t37_c : Nat),
      e = .returned (.slice t37_a t37_l t37_c) ∧
      ∃ (I : (Int) × Unit → World → Prop) (μ : (Int) × Unit → World → Nat),
      I (0, ()) w__1 ∧
      ∀ (J : Env) (s : (Int) × Unit) (w' : World), I s w' →
        S3_L4 head t (IntKind.i64.wrap (Int.tmod robot 8)) t35_a t35_l t35_c t37_a t37_l t37_c ((t37_l : Nat) : Int) s.1 w' R (fun s' w'' => I s' w'' ∧ μ s' w'' < μ s w')

def S3_L1 (more_a : Option Addr) (more_l : Nat) (more_c : Nat) (robot : Int) (head : Bool) (t : Option Addr) (t20_a : Option Addr) (t20_l : Nat) (t20_c : Nat) (t21 : Int) (t22 : Int) (w : World) (R : Value → World → Prop) (B1 : (Int) × Unit → World → Prop) : Prop :=
  cond (decide ((t22 : Int) < t21)) (
    S3_k2 more_a more_l more_c robot head t t20_a t20_l t20_c t21 t22 w R B1
  ) (
    S3_k3 more_a more_l more_c robot head t w R
  )

def S3_k0 (l_a : Option Addr) (l_l : Nat) (l_c : Nat) (more_a : Option Addr) (more_l : Nat) (more_c : Nat) (robot : Int) (head : Bool) (t : Option Addr) (w : World) (R : Value → World → Prop) : Prop :=
  Calls Try.prog 9 ⟨[(.slice l_a l_l l_c)]⟩ w fun e w_ =>
    ∃ (t20_a : Option Addr) (t20_l : Nat) (t20_c : Nat),
    e = .returned (.slice t20_a t20_l t20_c) ∧
    ∃ (I : (Int) × Unit → World → Prop) (μ : (Int) × Unit → World → Nat),
    I (0, ()) w_ ∧
    ∀ (J : Env) (s : (Int) × Unit) (w' : World), I s w' →
      S3_L1 more_a more_l more_c robot head t t20_a t20_l t20_c ((t20_l : Nat) : Int) s.1 w' R (fun s' w'' => I s' w'' ∧ μ s' w'' < μ s w')

def S3 (l_a : Option Addr) (l_l : Nat) (l_c : Nat) (more_a : Option Addr) (more_l : Nat) (more_c : Nat) (robot : Int) (w : World) (R : Value → World → Prop) : Prop :=
  Calls Try.prog 7 ⟨[]⟩ w fun e w_ =>
    ∃ (t15 : Bool),
    e = .returned (.bool t15) ∧
    Calls Try.prog 8 ⟨[]⟩ w_ fun e w__1 =>
      ∃ (t16 : Option Addr),
      e = .returned (.pointer t16) ∧
      cond (Option.isNone t16) (
        R (.bool false) w__1
      ) (
        S3_k0 l_a l_l l_c more_a more_l more_c robot t15 t16 w__1 R
      )

theorem S3_eq (l_a : Option Addr) (l_l : Nat) (l_c : Nat) (more_a : Option Addr) (more_l : Nat) (more_c : Nat) (robot : Int) (w : World) (R : Value → World → Prop) : Eng.R Try.prog ⟨cal, S3_nx⟩ 59 S3_ann [] (Try.f3.body.getD .skip) (bodyQ Try.prog #[.tmp 6] R) (argE [(.slice l_a l_l l_c), (.slice more_a more_l more_c), (.int .u8 robot)]) w = S3 l_a l_l l_c more_a more_l more_c robot w R := by kernel_rfl
/-- A call of 'carfax/carfaxlaw09.LockKeeps', by its condition. -/
theorem S3_calls {l_a : Option Addr} {l_l : Nat} {l_c : Nat} {more_a : Option Addr} {more_l : Nat} {more_c : Nat} {robot : Int} {w : World} {R : Value → World → Prop} (h : S3 l_a l_l l_c more_a more_l more_c robot w R) : Ret Try.prog 3 [(.slice l_a l_l l_c), (.slice more_a more_l more_c), (.int .u8 robot)] w R :=
  R_calls (C := ⟨cal, S3_nx⟩) cal_ok follows Try.func3 (c := Try.f3.body.getD .skip) (res := #[.tmp 6]) (n := 59) (by kernel_rfl) (by kernel_rfl) (by kernel_rfl) (by kernel_rfl) ((S3_eq l_a l_l l_c more_a more_l more_c robot w R).mpr h)

def S4_ann (p : List Nat) : Option LA := match p with
  | [0, 1, 0, 1, 1, 1, 1, 1] => some ⟨[3, 4, 5, 21, 22], [(23, .one (.int .i64))]⟩
  | _ => none

def S4_nx (t : Nat) : Option (TypeId × TypeId) := none

def S4_k5 (t3 : Bool) (t4 : Option Addr) (t5 : Addr) (t21_a : Option Addr) (t21_l : Nat) (t21_c : Nat) (t22 : Int) (t23 : Int) (t85 : Bool) (w : World) (R : Value → World → Prop) (B1 : (Int) × Unit → World → Prop) : Prop :=
  cond t85 (
    R (.bool false) w
  ) (
    B1 ((IntKind.i64.wrap (t23 + 1)), ()) w
  )

def S4_k4 (t3 : Bool) (t4 : Option Addr) (t5 : Addr) (t7 : Addr) (t21_a : Option Addr) (t21_l : Nat) (t21_c : Nat) (t22 : Int) (t23 : Int) (w : World) (R : Value → World → Prop) (B1 : (Int) × Unit → World → Prop) : Prop :=
  ∃ (t47 : Int),
  w.cell? (t7.add 2) = some (.int .i64 t47) ∧
  Calls Try.prog 15 ⟨[(.pointer t4), (.int .i64 t47)]⟩ w fun e w_ =>
    ∃ (t48_0 : Int) (t48_1 : Bool),
    e = .returned (.tuple ⟨[(.int .i64 t48_0), (.bool t48_1)]⟩) ∧
    ∃ (t54 : Int),
    w_.cell? (t7.add 2) = some (.int .i64 t54) ∧
    Calls Try.prog 16 ⟨[(.pointer (some t5)), (.int .i64 t54)]⟩ w_ fun e w__1 =>
      ∃ (t55_0 : Int) (t55_1 : Bool),
      e = .returned (.tuple ⟨[(.int .i64 t55_0), (.bool t55_1)]⟩) ∧
      cond (!decide ((t48_0 : Int) = t55_0)) (
        (
          S4_k5 t3 t4 t5 t21_a t21_l t21_c t22 t23 true w__1.drew R B1
        ) ∧
        (
          S4_k5 t3 t4 t5 t21_a t21_l t21_c t22 t23 true w__1.drew R B1
        )
      ) (
        cond (!(t48_1 == t55_1)) (
          (
            S4_k5 t3 t4 t5 t21_a t21_l t21_c t22 t23 true w__1.drew R B1
          ) ∧
          (
            S4_k5 t3 t4 t5 t21_a t21_l t21_c t22 t23 true w__1.drew R B1
          )
        ) (
          ∃ (t69 : Int),
          w__1.drew.cell? (t7.add 1) = some (.int .i64 t69) ∧
          (
            Calls Try.prog 11 ⟨[(.pointer t4), (.int .i64 t69)]⟩ w__1.drew fun e w__2 =>
              ∃ (t70_a : Option Addr) (t70_l : Nat) (t70_c : Nat),
              e = .returned (.slice t70_a t70_l t70_c) ∧
              ∃ (t73 : Int),
              w__2.cell? (t7.add 1) = some (.int .i64 t73) ∧
              Calls Try.prog 17 ⟨[(.pointer (some t5)), (.int .i64 t73)]⟩ w__2 fun e w__3 =>
                ∃ (t74_a : Option Addr) (t74_l : Nat) (t74_c : Nat),
                e = .returned (.slice t74_a t74_l t74_c) ∧
                Calls Try.prog 12 ⟨[(.slice t70_a t70_l t70_c), (.slice t74_a t74_l t74_c)]⟩ w__3 fun e w__4 =>
                  ∃ (t75 : Bool),
                  e = .returned (.bool t75) ∧
                  cond (!t75) (
                    S4_k5 t3 t4 t5 t21_a t21_l t21_c t22 t23 true w__4 R B1
                  ) (
                    Calls Try.prog 18 ⟨[(.pointer t4)]⟩ w__4 fun e w__5 =>
                      ∃ (t80_a : Option Addr) (t80_l : Nat) (t80_c : Nat),
                      e = .returned (.slice t80_a t80_l t80_c) ∧
                      Calls Try.prog 19 ⟨[(.pointer (some t5))]⟩ w__5 fun e w__6 =>
                        ∃ (t82_a : Option Addr) (t82_l : Nat) (t82_c : Nat),
                        e = .returned (.slice t82_a t82_l t82_c) ∧
                        Calls Try.prog 12 ⟨[(.slice t80_a t80_l t80_c), (.slice t82_a t82_l t82_c)]⟩ w__6 fun e w__7 =>
                          ∃ (t83 : Bool),
                          e = .returned (.bool t83) ∧
                          S4_k5 t3 t4 t5 t21_a t21_l t21_c t22 t23 (!t83) w__7 R B1
                  )
          ) ∧
          (
            ∃ (t73_1 : Int),
            w__1.drew.cell? (t7.add 1) = some (.int .i64 t73_1) ∧
            Calls Try.prog 11 ⟨[(.pointer t4), (.int .i64 t69)]⟩ w__1.drew fun e w__8 =>
              ∃ (t70_a_1 : Option Addr) (t70_l_1 : Nat) (t70_c_1 : Nat),
              e = .returned (.slice t70_a_1 t70_l_1 t70_c_1) ∧
              Calls Try.prog 17 ⟨[(.pointer (some t5)), (.int .i64 t73_1)]⟩ w__8 fun e w__9 =>
                ∃ (t74_a_1 : Option Addr) (t74_l_1 : Nat) (t74_c_1 : Nat),
                e = .returned (.slice t74_a_1 t74_l_1 t74_c_1) ∧
                Calls Try.prog 12 ⟨[(.slice t70_a_1 t70_l_1 t70_c_1), (.slice t74_a_1 t74_l_1 t74_c_1)]⟩ w__9 fun e w__10 =>
                  ∃ (t75_1 : Bool),
                  e = .returned (.bool t75_1) ∧
                  cond (!t75_1) (
                    S4_k5 t3 t4 t5 t21_a t21_l t21_c t22 t23 true w__10 R B1
                  ) (
                    Calls Try.prog 18 ⟨[(.pointer t4)]⟩ w__10 fun e w__11 =>
                      ∃ (t80_a_1 : Option Addr) (t80_l_1 : Nat) (t80_c_1 : Nat),
                      e = .returned (.slice t80_a_1 t80_l_1 t80_c_1) ∧
                      Calls Try.prog 19 ⟨[(.pointer (some t5))]⟩ w__11 fun e w__12 =>
                        ∃ (t82_a_1 : Option Addr) (t82_l_1 : Nat) (t82_c_1 : Nat),
                        e = .returned (.slice t82_a_1 t82_l_1 t82_c_1) ∧
                        Calls Try.prog 12 ⟨[(.slice t80_a_1 t80_l_1 t80_c_1), (.slice t82_a_1 t82_l_1 t82_c_1)]⟩ w__12 fun e w__13 =>
                          ∃ (t83_1 : Bool),
                          e = .returned (.bool t83_1) ∧
                          S4_k5 t3 t4 t5 t21_a t21_l t21_c t22 t23 (!t83_1) w__13 R B1
                  )
          )
        )
      )

def S4_k3 (t3 : Bool) (t4 : Option Addr) (t5 : Addr) (t7 : Addr) (t8 : Int) (t9_f0 : Addr) (t21_a : Option Addr) (t21_l : Nat) (t21_c : Nat) (t22 : Int) (t23 : Int) (w : World) (R : Value → World → Prop) (B1 : (Int) × Unit → World → Prop) : Prop :=
  ∃ (t39 : Int),
  w.cell? (t7.add 1) = some (.int .i64 t39) ∧
  ∃ (t41 : Int),
  w.cell? (t7.add 2) = some (.int .i64 t41) ∧
  Calls Try.prog 14 ⟨[(.pointer (some t9_f0)), (.int .i64 t39), (.int .i64 t41)]⟩ w fun e w_ =>
    ∃ (t42 : Int),
    e = .returned (.int .i64 t42) ∧
    cond (!decide ((t8 : Int) = t42)) (
      R (.bool false) w_
    ) (
      S4_k4 t3 t4 t5 t7 t21_a t21_l t21_c t22 t23 w_ R B1
    )

def S4_k6 (t3 : Bool) (t4 : Option Addr) (t5 : Addr) (t7 : Addr) (t8 : Int) (t9_f0 : Addr) (t21_a : Option Addr) (t21_l : Nat) (t21_c : Nat) (t22 : Int) (t23 : Int) (w : World) (R : Value → World → Prop) (B1 : (Int) × Unit → World → Prop) : Prop :=
  ∃ (t39 : Int),
  w.cell? (t7.add 1) = some (.int .i64 t39) ∧
  ∃ (t41 : Int),
  w.cell? (t7.add 2) = some (.int .i64 t41) ∧
  Calls Try.prog 13 ⟨[(.pointer (some t9_f0)), (.int .i64 t39), (.int .i64 t41)]⟩ w fun e w_ =>
    ∃ (t42 : Int),
    e = .returned (.int .i64 t42) ∧
    cond (!decide ((t8 : Int) = t42)) (
      R (.bool false) w_
    ) (
      S4_k4 t3 t4 t5 t7 t21_a t21_l t21_c t22 t23 w_ R B1
    )

def S4_k2 (t3 : Bool) (t4 : Option Addr) (t5 : Addr) (t21_a : Option Addr) (t21_l : Nat) (t21_c : Nat) (t22 : Int) (t23 : Int) (w : World) (R : Value → World → Prop) (B1 : (Int) × Unit → World → Prop) : Prop :=
  ∃ (t25 : Addr),
  t21_a = some t25 ∧
  0 ≤ (t23 : Int) ∧
  (t23 : Int) < ((t21_l : Nat) : Int) ∧
  ∃ (t26_0 : Bool),
  w.cell? (t25.add (Int.toNat t23 * 3)) = some (.bool t26_0) ∧
  ∃ (t26_1 : Int),
  w.cell? ((t25.add (Int.toNat t23 * 3)).add 1) = some (.int .i64 t26_1) ∧
  ∃ (t26_2 : Int),
  w.cell? ((t25.add (Int.toNat t23 * 3)).add 2) = some (.int .i64 t26_2) ∧
  (∃ u, (w.alloc (.cells ⟨[(.bool false), (.int .i64 0), (.int .i64 0)]⟩ 28)).cell? ⟨w.heap.size, 0, none⟩ = some u) ∧
  (w.alloc (.cells ⟨[(.bool false), (.int .i64 0), (.int .i64 0)]⟩ 28)).frozen? ⟨w.heap.size, 0, none⟩ = false ∧
  (∃ u, ((w.alloc (.cells ⟨[(.bool false), (.int .i64 0), (.int .i64 0)]⟩ 28)).setCell ⟨w.heap.size, 0, none⟩ (.bool t26_0)).cell? ⟨w.heap.size, 1, none⟩ = some u) ∧
  ((w.alloc (.cells ⟨[(.bool false), (.int .i64 0), (.int .i64 0)]⟩ 28)).setCell ⟨w.heap.size, 0, none⟩ (.bool t26_0)).frozen? ⟨w.heap.size, 1, none⟩ = false ∧
  (∃ u, (((w.alloc (.cells ⟨[(.bool false), (.int .i64 0), (.int .i64 0)]⟩ 28)).setCell ⟨w.heap.size, 0, none⟩ (.bool t26_0)).setCell ⟨w.heap.size, 1, none⟩ (.int .i64 t26_1)).cell? ⟨w.heap.size, 2, none⟩ = some u) ∧
  (((w.alloc (.cells ⟨[(.bool false), (.int .i64 0), (.int .i64 0)]⟩ 28)).setCell ⟨w.heap.size, 0, none⟩ (.bool t26_0)).setCell ⟨w.heap.size, 1, none⟩ (.int .i64 t26_1)).frozen? ⟨w.heap.size, 2, none⟩ = false ∧
  ∃ (t28_0 : Bool),
  ((((w.alloc (.cells ⟨[(.bool false), (.int .i64 0), (.int .i64 0)]⟩ 28)).setCell ⟨w.heap.size, 0, none⟩ (.bool t26_0)).setCell ⟨w.heap.size, 1, none⟩ (.int .i64 t26_1)).setCell ⟨w.heap.size, 2, none⟩ (.int .i64 t26_2)).cell? ⟨w.heap.size, 0, none⟩ = some (.bool t28_0) ∧
  ∃ (t28_1 : Int),
  ((((w.alloc (.cells ⟨[(.bool false), (.int .i64 0), (.int .i64 0)]⟩ 28)).setCell ⟨w.heap.size, 0, none⟩ (.bool t26_0)).setCell ⟨w.heap.size, 1, none⟩ (.int .i64 t26_1)).setCell ⟨w.heap.size, 2, none⟩ (.int .i64 t26_2)).cell? ⟨w.heap.size, 1, none⟩ = some (.int .i64 t28_1) ∧
  ∃ (t28_2 : Int),
  ((((w.alloc (.cells ⟨[(.bool false), (.int .i64 0), (.int .i64 0)]⟩ 28)).setCell ⟨w.heap.size, 0, none⟩ (.bool t26_0)).setCell ⟨w.heap.size, 1, none⟩ (.int .i64 t26_1)).setCell ⟨w.heap.size, 2, none⟩ (.int .i64 t26_2)).cell? ⟨w.heap.size, 2, none⟩ = some (.int .i64 t28_2) ∧
  Calls Try.prog 10 ⟨[(.pointer t4), (.agg ⟨[(.bool t28_0), (.int .i64 t28_1), (.int .i64 t28_2)]⟩)]⟩ ((((w.alloc (.cells ⟨[(.bool false), (.int .i64 0), (.int .i64 0)]⟩ 28)).setCell ⟨w.heap.size, 0, none⟩ (.bool t26_0)).setCell ⟨w.heap.size, 1, none⟩ (.int .i64 t26_1)).setCell ⟨w.heap.size, 2, none⟩ (.int .i64 t26_2)) fun e w_ =>
    ∃ (t29 : Int),
    e = .returned (.int .i64 t29) ∧
    ∃ (t33 : Bool),
    w_.cell? ⟨w.heap.size, 0, none⟩ = some (.bool t33) ∧
    cond t33 (
      S4_k3 t3 t4 t5 ⟨w.heap.size, 0, none⟩ t29 t5 t21_a t21_l t21_c t22 t23 w_ R B1
    ) (
      S4_k6 t3 t4 t5 ⟨w.heap.size, 0, none⟩ t29 t5 t21_a t21_l t21_c t22 t23 w_ R B1
    )

def S4_L1 (t3 : Bool) (t4 : Option Addr) (t5 : Addr) (t21_a : Option Addr) (t21_l : Nat) (t21_c : Nat) (t22 : Int) (t23 : Int) (w : World) (R : Value → World → Prop) (B1 : (Int) × Unit → World → Prop) : Prop :=
  cond (decide ((t23 : Int) < t22)) (
    S4_k2 t3 t4 t5 t21_a t21_l t21_c t22 t23 w R B1
  ) (
    R (.bool t3) w
  )

def S4_k0 (l_a : Option Addr) (l_l : Nat) (l_c : Nat) (t3 : Bool) (t4 : Option Addr) (w : World) (R : Value → World → Prop) : Prop :=
  Calls Try.prog 9 ⟨[(.slice l_a l_l l_c)]⟩ (w.alloc (.cells ⟨[(.slice none 0 0)]⟩ 38)) fun e w_ =>
    ∃ (t21_a : Option Addr) (t21_l : Nat) (t21_c : Nat),
    e = .returned (.slice t21_a t21_l t21_c) ∧
    ∃ (I : (Int) × Unit → World → Prop) (μ : (Int) × Unit → World → Nat),
    I (0, ()) w_ ∧
    ∀ (J : Env) (s : (Int) × Unit) (w' : World), I s w' →
      S4_L1 t3 t4 ⟨w.heap.size, 0, none⟩ t21_a t21_l t21_c ((t21_l : Nat) : Int) s.1 w' R (fun s' w'' => I s' w'' ∧ μ s' w'' < μ s w')

def S4 (l_a : Option Addr) (l_l : Nat) (l_c : Nat) (w : World) (R : Value → World → Prop) : Prop :=
  Calls Try.prog 7 ⟨[]⟩ w fun e w_ =>
    ∃ (t14 : Bool),
    e = .returned (.bool t14) ∧
    Calls Try.prog 8 ⟨[]⟩ w_ fun e w__1 =>
      ∃ (t15 : Option Addr),
      e = .returned (.pointer t15) ∧
      cond (Option.isNone t15) (
        R (.bool false) w__1
      ) (
        S4_k0 l_a l_l l_c t14 t15 w__1 R
      )

theorem S4_eq (l_a : Option Addr) (l_l : Nat) (l_c : Nat) (w : World) (R : Value → World → Prop) : Eng.R Try.prog ⟨cal, S4_nx⟩ 88 S4_ann [] (Try.f4.body.getD .skip) (bodyQ Try.prog #[.tmp 2] R) (argE [(.slice l_a l_l l_c)]) w = S4 l_a l_l l_c w R := by kernel_rfl
/-- A call of 'carfax/carfaxlaw09.LockPlays', by its condition. -/
theorem S4_calls {l_a : Option Addr} {l_l : Nat} {l_c : Nat} {w : World} {R : Value → World → Prop} (h : S4 l_a l_l l_c w R) : Ret Try.prog 4 [(.slice l_a l_l l_c)] w R :=
  R_calls (C := ⟨cal, S4_nx⟩) cal_ok follows Try.func4 (c := Try.f4.body.getD .skip) (res := #[.tmp 2]) (n := 88) (by kernel_rfl) (by kernel_rfl) (by kernel_rfl) (by kernel_rfl) ((S4_eq l_a l_l l_c w R).mpr h)

def S5_ann (p : List Nat) : Option LA := match p with
  | [0, 1, 0, 1, 1, 1, 1] => some ⟨[3, 4, 22, 23], [(24, .one (.int .i64))]⟩
  | [0, 1, 0, 1, 1, 1, 1, 0, 0, 1, 1, 0, 0, 1, 0, 1, 1, 1, 1] => some ⟨[3, 4, 7, 22, 23, 24], [(8, .one .slice), (34, .one (.int .i64))]⟩
  | [0, 1, 0, 1, 1, 1, 1, 1, 0, 0, 1, 1, 0, 0, 1, 0, 1, 1, 1, 1] => some ⟨[3, 4, 7, 22, 23, 24, 44, 45], [(46, .one (.int .i64))]⟩
  | [0, 1, 1, 0, 0, 1, 1, 0, 0, 1, 0, 1, 1, 1, 1, 1, 0, 0, 1, 1, 0, 0, 1, 0, 1, 1, 1, 1] => some ⟨[3, 4, 7, 10, 22, 23, 24, 44, 45, 46, 51, 52], [(53, .one (.int .i64))]⟩
  | [0, 1, 1, 1, 1, 1, 1, 1, 0, 0, 1, 1, 0, 0, 1, 0, 1, 1, 1, 1] => some ⟨[3, 4, 7, 22, 23, 24], [(89, .one (.int .i64))]⟩
  | _ => none

def S5_nx (t : Nat) : Option (TypeId × TypeId) := none

def S5_k4 (t3 : Bool) (t4 : Option Addr) (t7 : Addr) (t8_a : Option Addr) (t8_l : Nat) (t8_c : Nat) (t22_a : Option Addr) (t22_l : Nat) (t22_c : Nat) (t23 : Int) (t24 : Int) (t34 : Int) (w : World) (R : Value → World → Prop) (B1 : (Int) × Unit → World → Prop) (B2 : (Option Addr × Nat × Nat) × (Int) × Unit → World → Prop) : Prop :=
  Calls Try.prog 11 ⟨[(.pointer t4), (.int .i64 t34)]⟩ w fun e w_ =>
    ∃ (t40_a : Option Addr) (t40_l : Nat) (t40_c : Nat),
    e = .returned (.slice t40_a t40_l t40_c) ∧
    ∃ (t42_a : Option Addr) (t42_l : Nat) (t42_c : Nat) (w__1 : World),
    (Builtin.append_ #[45, 45] 45 ⟨[(.slice t8_a t8_l t8_c), (.slice (some ⟨w_.heap.size, 0, none⟩) 1 1)]⟩).run Try.prog (w_.alloc (.cells ⟨[(.slice t40_a t40_l t40_c)]⟩ 31)) = .ok (.slice t42_a t42_l t42_c) w__1 ∧
    B2 ((t42_a, t42_l, t42_c), (IntKind.i64.wrap (t34 + 1)), ()) w__1

def S5_k12 (t3 : Bool) (t4 : Option Addr) (t7 : Addr) (t10 : Int) (t22_a : Option Addr) (t22_l : Nat) (t22_c : Nat) (t23 : Int) (t24 : Int) (t44_a : Option Addr) (t44_l : Nat) (t44_c : Nat) (t45 : Int) (t46 : Int) (t51_a : Option Addr) (t51_l : Nat) (t51_c : Nat) (t52 : Int) (t53 : Int) (t86 : Bool) (w : World) (R : Value → World → Prop) (B1 : (Int) × Unit → World → Prop) (B2 : (Int) × Unit → World → Prop) (B3 : (Int) × Unit → World → Prop) : Prop :=
  cond t86 (
    R (.bool false) w
  ) (
    B3 ((IntKind.i64.wrap (t53 + 1)), ()) w
  )

def S5_k11 (t3 : Bool) (t4 : Option Addr) (t7 : Addr) (t10 : Int) (t13 : Int) (t22_a : Option Addr) (t22_l : Nat) (t22_c : Nat) (t23 : Int) (t24 : Int) (t44_a : Option Addr) (t44_l : Nat) (t44_c : Nat) (t45 : Int) (t46 : Int) (t51_a : Option Addr) (t51_l : Nat) (t51_c : Nat) (t52 : Int) (t53 : Int) (w : World) (R : Value → World → Prop) (B1 : (Int) × Unit → World → Prop) (B2 : (Int) × Unit → World → Prop) (B3 : (Int) × Unit → World → Prop) : Prop :=
  0 ≤ (t13 : Int) ∧
  (t13 : Int) < ((26 : Nat) : Int) ∧
  ∃ (t65 : Int),
  w.cell? (Addr.add t7 (Int.toNat t13 * 1)) = some (.int .i64 t65) ∧
  0 ≤ (t13 : Int) ∧
  (t13 : Int) < ((26 : Nat) : Int) ∧
  (∃ u, w.cell? (Addr.add t7 (Int.toNat t13 * 1)) = some u) ∧
  w.frozen? (Addr.add t7 (Int.toNat t13 * 1)) = false ∧
  Calls Try.prog 15 ⟨[(.pointer t4), (.int .i64 t13)]⟩ (w.setCell (Addr.add t7 (Int.toNat t13 * 1)) (.int .i64 (IntKind.i64.wrap (t65 + 1)))) fun e w_ =>
    ∃ (t71_0 : Int) (t71_1 : Bool),
    e = .returned (.tuple ⟨[(.int .i64 t71_0), (.bool t71_1)]⟩) ∧
    cond (!(t71_1 == (decide ((0 : Int) < t10)))) (
      S5_k12 t3 t4 t7 t10 t22_a t22_l t22_c t23 t24 t44_a t44_l t44_c t45 t46 t51_a t51_l t51_c t52 t53 true w_ R B1 B2 B3
    ) (
      cond t71_1 (
        S5_k12 t3 t4 t7 t10 t22_a t22_l t22_c t23 t24 t44_a t44_l t44_c t45 t46 t51_a t51_l t51_c t52 t53 (!decide ((t71_0 : Int) = (IntKind.i64.wrap (t10 - 1)))) w_ R B1 B2 B3
      ) (
        S5_k12 t3 t4 t7 t10 t22_a t22_l t22_c t23 t24 t44_a t44_l t44_c t45 t46 t51_a t51_l t51_c t52 t53 false w_ R B1 B2 B3
      )
    )

def S5_k10 (t3 : Bool) (t4 : Option Addr) (t7 : Addr) (t10 : Int) (t13 : Int) (t22_a : Option Addr) (t22_l : Nat) (t22_c : Nat) (t23 : Int) (t24 : Int) (t44_a : Option Addr) (t44_l : Nat) (t44_c : Nat) (t45 : Int) (t46 : Int) (t51_a : Option Addr) (t51_l : Nat) (t51_c : Nat) (t52 : Int) (t53 : Int) (t62 : Bool) (w : World) (R : Value → World → Prop) (B1 : (Int) × Unit → World → Prop) (B2 : (Int) × Unit → World → Prop) (B3 : (Int) × Unit → World → Prop) : Prop :=
  cond t62 (
    R (.bool false) w
  ) (
    S5_k11 t3 t4 t7 t10 t13 t22_a t22_l t22_c t23 t24 t44_a t44_l t44_c t45 t46 t51_a t51_l t51_c t52 t53 w R B1 B2 B3
  )

def S5_k9 (t3 : Bool) (t4 : Option Addr) (t7 : Addr) (t10 : Int) (t22_a : Option Addr) (t22_l : Nat) (t22_c : Nat) (t23 : Int) (t24 : Int) (t44_a : Option Addr) (t44_l : Nat) (t44_c : Nat) (t45 : Int) (t46 : Int) (t51_a : Option Addr) (t51_l : Nat) (t51_c : Nat) (t52 : Int) (t53 : Int) (w : World) (R : Value → World → Prop) (B1 : (Int) × Unit → World → Prop) (B2 : (Int) × Unit → World → Prop) (B3 : (Int) × Unit → World → Prop) : Prop :=
  ∃ (t55 : Addr),
  t51_a = some t55 ∧
  0 ≤ (t53 : Int) ∧
  (t53 : Int) < ((t51_l : Nat) : Int) ∧
  ∃ (t56 : Int),
  w.cell? (t55.add (Int.toNat t53 * 1)) = some (.int .i64 t56) ∧
  cond (decide ((t56 : Int) < 0)) (
    S5_k10 t3 t4 t7 t10 t56 t22_a t22_l t22_c t23 t24 t44_a t44_l t44_c t45 t46 t51_a t51_l t51_c t52 t53 true w R B1 B2 B3
  ) (
    S5_k10 t3 t4 t7 t10 t56 t22_a t22_l t22_c t23 t24 t44_a t44_l t44_c t45 t46 t51_a t51_l t51_c t52 t53 (decide ((26 : Int) ≤ t56)) w R B1 B2 B3
  )

def S5_L8 (t3 : Bool) (t4 : Option Addr) (t7 : Addr) (t10 : Int) (t22_a : Option Addr) (t22_l : Nat) (t22_c : Nat) (t23 : Int) (t24 : Int) (t44_a : Option Addr) (t44_l : Nat) (t44_c : Nat) (t45 : Int) (t46 : Int) (t51_a : Option Addr) (t51_l : Nat) (t51_c : Nat) (t52 : Int) (t53 : Int) (w : World) (R : Value → World → Prop) (B1 : (Int) × Unit → World → Prop) (B2 : (Int) × Unit → World → Prop) (B3 : (Int) × Unit → World → Prop) : Prop :=
  cond (decide ((t53 : Int) < t52)) (
    S5_k9 t3 t4 t7 t10 t22_a t22_l t22_c t23 t24 t44_a t44_l t44_c t45 t46 t51_a t51_l t51_c t52 t53 w R B1 B2 B3
  ) (
    B2 ((IntKind.i64.wrap (t46 + 1)), ()) w
  )

def S5_k7 (t3 : Bool) (t4 : Option Addr) (t7 : Addr) (t22_a : Option Addr) (t22_l : Nat) (t22_c : Nat) (t23 : Int) (t24 : Int) (t44_a : Option Addr) (t44_l : Nat) (t44_c : Nat) (t45 : Int) (t46 : Int) (w : World) (R : Value → World → Prop) (B1 : (Int) × Unit → World → Prop) (B2 : (Int) × Unit → World → Prop) : Prop :=
  ∃ (t49 : Addr),
  t44_a = some t49 ∧
  0 ≤ (t46 : Int) ∧
  (t46 : Int) < ((t44_l : Nat) : Int) ∧
  ∃ (t50_a : Option Addr) (t50_l : Nat) (t50_c : Nat),
  w.cell? (t49.add (Int.toNat t46 * 1)) = some (.slice t50_a t50_l t50_c) ∧
  ∃ (I : (Int) × Unit → World → Prop) (μ : (Int) × Unit → World → Nat),
  I (0, ()) w ∧
  ∀ (J : Env) (s : (Int) × Unit) (w' : World), I s w' →
    S5_L8 t3 t4 t7 t46 t22_a t22_l t22_c t23 t24 t44_a t44_l t44_c t45 t46 t50_a t50_l t50_c ((t50_l : Nat) : Int) s.1 w' R B1 B2 (fun s' w'' => I s' w'' ∧ μ s' w'' < μ s w')

def S5_k15 (t3 : Bool) (t4 : Option Addr) (t7 : Addr) (t22_a : Option Addr) (t22_l : Nat) (t22_c : Nat) (t23 : Int) (t24 : Int) (t89 : Int) (w : World) (R : Value → World → Prop) (B1 : (Int) × Unit → World → Prop) (B2 : (Int) × Unit → World → Prop) : Prop :=
  0 ≤ (t89 : Int) ∧
  (t89 : Int) < ((26 : Nat) : Int) ∧
  ∃ (t94 : Int),
  w.cell? (Addr.add t7 (Int.toNat t89 * 1)) = some (.int .i64 t94) ∧
  cond (!decide ((t94 : Int) = 1)) (
    R (.bool false) w
  ) (
    B2 ((IntKind.i64.wrap (t89 + 1)), ()) w
  )

def S5_L14 (t3 : Bool) (t4 : Option Addr) (t7 : Addr) (t22_a : Option Addr) (t22_l : Nat) (t22_c : Nat) (t23 : Int) (t24 : Int) (t89 : Int) (w : World) (R : Value → World → Prop) (B1 : (Int) × Unit → World → Prop) (B2 : (Int) × Unit → World → Prop) : Prop :=
  cond (decide ((t89 : Int) < 26)) (
    S5_k15 t3 t4 t7 t22_a t22_l t22_c t23 t24 t89 w R B1 B2
  ) (
    B1 ((IntKind.i64.wrap (t24 + 1)), ()) w
  )

def S5_k13 (t3 : Bool) (t4 : Option Addr) (t7 : Addr) (t22_a : Option Addr) (t22_l : Nat) (t22_c : Nat) (t23 : Int) (t24 : Int) (w : World) (R : Value → World → Prop) (B1 : (Int) × Unit → World → Prop) : Prop :=
  ∃ (I : (Int) × Unit → World → Prop) (μ : (Int) × Unit → World → Nat),
  I (0, ()) w ∧
  ∀ (J : Env) (s : (Int) × Unit) (w' : World), I s w' →
    S5_L14 t3 t4 t7 t22_a t22_l t22_c t23 t24 s.1 w' R B1 (fun s' w'' => I s' w'' ∧ μ s' w'' < μ s w')

def S5_L6 (t3 : Bool) (t4 : Option Addr) (t7 : Addr) (t22_a : Option Addr) (t22_l : Nat) (t22_c : Nat) (t23 : Int) (t24 : Int) (t44_a : Option Addr) (t44_l : Nat) (t44_c : Nat) (t45 : Int) (t46 : Int) (w : World) (R : Value → World → Prop) (B1 : (Int) × Unit → World → Prop) (B2 : (Int) × Unit → World → Prop) : Prop :=
  cond (decide ((t46 : Int) < t45)) (
    S5_k7 t3 t4 t7 t22_a t22_l t22_c t23 t24 t44_a t44_l t44_c t45 t46 w R B1 B2
  ) (
    S5_k13 t3 t4 t7 t22_a t22_l t22_c t23 t24 w R B1
  )

def S5_k5 (t3 : Bool) (t4 : Option Addr) (t7 : Addr) (t8_a : Option Addr) (t8_l : Nat) (t8_c : Nat) (t22_a : Option Addr) (t22_l : Nat) (t22_c : Nat) (t23 : Int) (t24 : Int) (w : World) (R : Value → World → Prop) (B1 : (Int) × Unit → World → Prop) : Prop :=
  ∃ (I : (Int) × Unit → World → Prop) (μ : (Int) × Unit → World → Nat),
  I (0, ()) w ∧
  ∀ (J : Env) (s : (Int) × Unit) (w' : World), I s w' →
    S5_L6 t3 t4 t7 t22_a t22_l t22_c t23 t24 t8_a t8_l t8_c ((t8_l : Nat) : Int) s.1 w' R B1 (fun s' w'' => I s' w'' ∧ μ s' w'' < μ s w')

def S5_L3 (t3 : Bool) (t4 : Option Addr) (t7 : Addr) (t8_a : Option Addr) (t8_l : Nat) (t8_c : Nat) (t22_a : Option Addr) (t22_l : Nat) (t22_c : Nat) (t23 : Int) (t24 : Int) (t34 : Int) (w : World) (R : Value → World → Prop) (B1 : (Int) × Unit → World → Prop) (B2 : (Option Addr × Nat × Nat) × (Int) × Unit → World → Prop) : Prop :=
  cond (decide ((t34 : Int) < 8)) (
    S5_k4 t3 t4 t7 t8_a t8_l t8_c t22_a t22_l t22_c t23 t24 t34 w R B1 B2
  ) (
    S5_k5 t3 t4 t7 t8_a t8_l t8_c t22_a t22_l t22_c t23 t24 w R B1
  )

def S5_k2 (t3 : Bool) (t4 : Option Addr) (t22_a : Option Addr) (t22_l : Nat) (t22_c : Nat) (t23 : Int) (t24 : Int) (w : World) (R : Value → World → Prop) (B1 : (Int) × Unit → World → Prop) : Prop :=
  ∃ (t26 : Addr),
  t22_a = some t26 ∧
  0 ≤ (t24 : Int) ∧
  (t24 : Int) < ((t22_l : Nat) : Int) ∧
  ∃ (t27_0 : Bool),
  w.cell? (t26.add (Int.toNat t24 * 3)) = some (.bool t27_0) ∧
  ∃ (t27_1 : Int),
  w.cell? ((t26.add (Int.toNat t24 * 3)).add 1) = some (.int .i64 t27_1) ∧
  ∃ (t27_2 : Int),
  w.cell? ((t26.add (Int.toNat t24 * 3)).add 2) = some (.int .i64 t27_2) ∧
  (∃ u, (w.alloc (.cells ⟨[(.bool false), (.int .i64 0), (.int .i64 0)]⟩ 28)).cell? ⟨w.heap.size, 0, none⟩ = some u) ∧
  (w.alloc (.cells ⟨[(.bool false), (.int .i64 0), (.int .i64 0)]⟩ 28)).frozen? ⟨w.heap.size, 0, none⟩ = false ∧
  (∃ u, ((w.alloc (.cells ⟨[(.bool false), (.int .i64 0), (.int .i64 0)]⟩ 28)).setCell ⟨w.heap.size, 0, none⟩ (.bool t27_0)).cell? ⟨w.heap.size, 1, none⟩ = some u) ∧
  ((w.alloc (.cells ⟨[(.bool false), (.int .i64 0), (.int .i64 0)]⟩ 28)).setCell ⟨w.heap.size, 0, none⟩ (.bool t27_0)).frozen? ⟨w.heap.size, 1, none⟩ = false ∧
  (∃ u, (((w.alloc (.cells ⟨[(.bool false), (.int .i64 0), (.int .i64 0)]⟩ 28)).setCell ⟨w.heap.size, 0, none⟩ (.bool t27_0)).setCell ⟨w.heap.size, 1, none⟩ (.int .i64 t27_1)).cell? ⟨w.heap.size, 2, none⟩ = some u) ∧
  (((w.alloc (.cells ⟨[(.bool false), (.int .i64 0), (.int .i64 0)]⟩ 28)).setCell ⟨w.heap.size, 0, none⟩ (.bool t27_0)).setCell ⟨w.heap.size, 1, none⟩ (.int .i64 t27_1)).frozen? ⟨w.heap.size, 2, none⟩ = false ∧
  ∃ (t29_0 : Bool),
  ((((w.alloc (.cells ⟨[(.bool false), (.int .i64 0), (.int .i64 0)]⟩ 28)).setCell ⟨w.heap.size, 0, none⟩ (.bool t27_0)).setCell ⟨w.heap.size, 1, none⟩ (.int .i64 t27_1)).setCell ⟨w.heap.size, 2, none⟩ (.int .i64 t27_2)).cell? ⟨w.heap.size, 0, none⟩ = some (.bool t29_0) ∧
  ∃ (t29_1 : Int),
  ((((w.alloc (.cells ⟨[(.bool false), (.int .i64 0), (.int .i64 0)]⟩ 28)).setCell ⟨w.heap.size, 0, none⟩ (.bool t27_0)).setCell ⟨w.heap.size, 1, none⟩ (.int .i64 t27_1)).setCell ⟨w.heap.size, 2, none⟩ (.int .i64 t27_2)).cell? ⟨w.heap.size, 1, none⟩ = some (.int .i64 t29_1) ∧
  ∃ (t29_2 : Int),
  ((((w.alloc (.cells ⟨[(.bool false), (.int .i64 0), (.int .i64 0)]⟩ 28)).setCell ⟨w.heap.size, 0, none⟩ (.bool t27_0)).setCell ⟨w.heap.size, 1, none⟩ (.int .i64 t27_1)).setCell ⟨w.heap.size, 2, none⟩ (.int .i64 t27_2)).cell? ⟨w.heap.size, 2, none⟩ = some (.int .i64 t29_2) ∧
  Calls Try.prog 10 ⟨[(.pointer t4), (.agg ⟨[(.bool t29_0), (.int .i64 t29_1), (.int .i64 t29_2)]⟩)]⟩ ((((w.alloc (.cells ⟨[(.bool false), (.int .i64 0), (.int .i64 0)]⟩ 28)).setCell ⟨w.heap.size, 0, none⟩ (.bool t27_0)).setCell ⟨w.heap.size, 1, none⟩ (.int .i64 t27_1)).setCell ⟨w.heap.size, 2, none⟩ (.int .i64 t27_2)) fun e w_ =>
    ∃ (t30 : Int),
    e = .returned (.int .i64 t30) ∧
    Calls Try.prog 18 ⟨[(.pointer t4)]⟩ (w_.alloc (.cells ⟨[(.int .i64 0), (.int .i64 0), (.int .i64 0), (.int .i64 0), (.int .i64 0), (.int .i64 0), (.int .i64 0), (.int .i64 0), (.int .i64 0), (.int .i64 0), (.int .i64 0), (.int .i64 0), (.int .i64 0), (.int .i64 0), (.int .i64 0), (.int .i64 0), (.int .i64 0), (.int .i64 0), (.int .i64 0), (.int .i64 0), (.int .i64 0), (.int .i64 0), (.int .i64 0), (.int .i64 0), (.int .i64 0), (.int .i64 0)]⟩ 44)) fun e w__1 =>
      ∃ (t32_a : Option Addr) (t32_l : Nat) (t32_c : Nat),
      e = .returned (.slice t32_a t32_l t32_c) ∧
      ∃ (I : (Option Addr × Nat × Nat) × (Int) × Unit → World → Prop) (μ : (Option Addr × Nat × Nat) × (Int) × Unit → World → Nat),
      I (((some ⟨w__1.heap.size, 0, none⟩), 1, 1), 0, ()) (w__1.alloc (.cells ⟨[(.slice t32_a t32_l t32_c)]⟩ 31)) ∧
      ∀ (J : Env) (s : (Option Addr × Nat × Nat) × (Int) × Unit) (w' : World), I s w' →
        S5_L3 t3 t4 ⟨w_.heap.size, 0, none⟩ s.1.1 s.1.2.1 s.1.2.2 t22_a t22_l t22_c t23 t24 s.2.1 w' R B1 (fun s' w'' => I s' w'' ∧ μ s' w'' < μ s w')

def S5_L1 (t3 : Bool) (t4 : Option Addr) (t22_a : Option Addr) (t22_l : Nat) (t22_c : Nat) (t23 : Int) (t24 : Int) (w : World) (R : Value → World → Prop) (B1 : (Int) × Unit → World → Prop) : Prop :=
  cond (decide ((t24 : Int) < t23)) (
    S5_k2 t3 t4 t22_a t22_l t22_c t23 t24 w R B1
  ) (
    R (.bool t3) w
  )

def S5_k0 (l_a : Option Addr) (l_l : Nat) (l_c : Nat) (t3 : Bool) (t4 : Option Addr) (w : World) (R : Value → World → Prop) : Prop :=
  Calls Try.prog 9 ⟨[(.slice l_a l_l l_c)]⟩ w fun e w_ =>
    ∃ (t22_a : Option Addr) (t22_l : Nat) (t22_c : Nat),
    e = .returned (.slice t22_a t22_l t22_c) ∧
    ∃ (I : (Int) × Unit → World → Prop) (μ : (Int) × Unit → World → Nat),
    I (0, ()) w_ ∧
    ∀ (J : Env) (s : (Int) × Unit) (w' : World), I s w' →
      S5_L1 t3 t4 t22_a t22_l t22_c ((t22_l : Nat) : Int) s.1 w' R (fun s' w'' => I s' w'' ∧ μ s' w'' < μ s w')

def S5 (l_a : Option Addr) (l_l : Nat) (l_c : Nat) (w : World) (R : Value → World → Prop) : Prop :=
  Calls Try.prog 7 ⟨[]⟩ w fun e w_ =>
    ∃ (t17 : Bool),
    e = .returned (.bool t17) ∧
    Calls Try.prog 8 ⟨[]⟩ w_ fun e w__1 =>
      ∃ (t18 : Option Addr),
      e = .returned (.pointer t18) ∧
      cond (Option.isNone t18) (
        R (.bool false) w__1
      ) (
        S5_k0 l_a l_l l_c t17 t18 w__1 R
      )

theorem S5_eq (l_a : Option Addr) (l_l : Nat) (l_c : Nat) (w : World) (R : Value → World → Prop) : Eng.R Try.prog ⟨cal, S5_nx⟩ 99 S5_ann [] (Try.f5.body.getD .skip) (bodyQ Try.prog #[.tmp 2] R) (argE [(.slice l_a l_l l_c)]) w = S5 l_a l_l l_c w R := by kernel_rfl
/-- A call of 'carfax/carfaxlaw09.LockOnce', by its condition. -/
theorem S5_calls {l_a : Option Addr} {l_l : Nat} {l_c : Nat} {w : World} {R : Value → World → Prop} (h : S5 l_a l_l l_c w R) : Ret Try.prog 5 [(.slice l_a l_l l_c)] w R :=
  R_calls (C := ⟨cal, S5_nx⟩) cal_ok follows Try.func5 (c := Try.f5.body.getD .skip) (res := #[.tmp 2]) (n := 99) (by kernel_rfl) (by kernel_rfl) (by kernel_rfl) (by kernel_rfl) ((S5_eq l_a l_l l_c w R).mpr h)

def S6_ann (p : List Nat) : Option LA := match p with
  | [0, 1, 0, 1, 1, 1, 1] => some ⟨[1, 2, 7, 8, 25, 26], [(27, .one (.int .i64))]⟩
  | [0, 1, 0, 1, 1, 1, 1, 1, 1, 1] => some ⟨[1, 2, 7, 8, 11], [(12, .one .slice), (37, .one (.int .i64))]⟩
  | [0, 1, 0, 1, 1, 1, 1, 1, 1, 1, 1, 1, 1, 1] => some ⟨[7, 8, 11, 12, 84], [(85, .one (.int .i64))]⟩
  | _ => none

def S6_nx (t : Nat) : Option (TypeId × TypeId) := none

def S6_k2 (t1 : Int) (t2 : Int) (t7 : Bool) (t8 : Option Addr) (t25_a : Option Addr) (t25_l : Nat) (t25_c : Nat) (t26 : Int) (t27 : Int) (w : World) (R : Value → World → Prop) (B1 : (Int) × Unit → World → Prop) : Prop :=
  ∃ (t29 : Addr),
  t25_a = some t29 ∧
  0 ≤ (t27 : Int) ∧
  (t27 : Int) < ((t25_l : Nat) : Int) ∧
  ∃ (t30_0 : Bool),
  w.cell? (t29.add (Int.toNat t27 * 3)) = some (.bool t30_0) ∧
  ∃ (t30_1 : Int),
  w.cell? ((t29.add (Int.toNat t27 * 3)).add 1) = some (.int .i64 t30_1) ∧
  ∃ (t30_2 : Int),
  w.cell? ((t29.add (Int.toNat t27 * 3)).add 2) = some (.int .i64 t30_2) ∧
  (∃ u, (w.alloc (.cells ⟨[(.bool false), (.int .i64 0), (.int .i64 0)]⟩ 28)).cell? ⟨w.heap.size, 0, none⟩ = some u) ∧
  (w.alloc (.cells ⟨[(.bool false), (.int .i64 0), (.int .i64 0)]⟩ 28)).frozen? ⟨w.heap.size, 0, none⟩ = false ∧
  (∃ u, ((w.alloc (.cells ⟨[(.bool false), (.int .i64 0), (.int .i64 0)]⟩ 28)).setCell ⟨w.heap.size, 0, none⟩ (.bool t30_0)).cell? ⟨w.heap.size, 1, none⟩ = some u) ∧
  ((w.alloc (.cells ⟨[(.bool false), (.int .i64 0), (.int .i64 0)]⟩ 28)).setCell ⟨w.heap.size, 0, none⟩ (.bool t30_0)).frozen? ⟨w.heap.size, 1, none⟩ = false ∧
  (∃ u, (((w.alloc (.cells ⟨[(.bool false), (.int .i64 0), (.int .i64 0)]⟩ 28)).setCell ⟨w.heap.size, 0, none⟩ (.bool t30_0)).setCell ⟨w.heap.size, 1, none⟩ (.int .i64 t30_1)).cell? ⟨w.heap.size, 2, none⟩ = some u) ∧
  (((w.alloc (.cells ⟨[(.bool false), (.int .i64 0), (.int .i64 0)]⟩ 28)).setCell ⟨w.heap.size, 0, none⟩ (.bool t30_0)).setCell ⟨w.heap.size, 1, none⟩ (.int .i64 t30_1)).frozen? ⟨w.heap.size, 2, none⟩ = false ∧
  ∃ (t32_0 : Bool),
  ((((w.alloc (.cells ⟨[(.bool false), (.int .i64 0), (.int .i64 0)]⟩ 28)).setCell ⟨w.heap.size, 0, none⟩ (.bool t30_0)).setCell ⟨w.heap.size, 1, none⟩ (.int .i64 t30_1)).setCell ⟨w.heap.size, 2, none⟩ (.int .i64 t30_2)).cell? ⟨w.heap.size, 0, none⟩ = some (.bool t32_0) ∧
  ∃ (t32_1 : Int),
  ((((w.alloc (.cells ⟨[(.bool false), (.int .i64 0), (.int .i64 0)]⟩ 28)).setCell ⟨w.heap.size, 0, none⟩ (.bool t30_0)).setCell ⟨w.heap.size, 1, none⟩ (.int .i64 t30_1)).setCell ⟨w.heap.size, 2, none⟩ (.int .i64 t30_2)).cell? ⟨w.heap.size, 1, none⟩ = some (.int .i64 t32_1) ∧
  ∃ (t32_2 : Int),
  ((((w.alloc (.cells ⟨[(.bool false), (.int .i64 0), (.int .i64 0)]⟩ 28)).setCell ⟨w.heap.size, 0, none⟩ (.bool t30_0)).setCell ⟨w.heap.size, 1, none⟩ (.int .i64 t30_1)).setCell ⟨w.heap.size, 2, none⟩ (.int .i64 t30_2)).cell? ⟨w.heap.size, 2, none⟩ = some (.int .i64 t32_2) ∧
  Calls Try.prog 10 ⟨[(.pointer t8), (.agg ⟨[(.bool t32_0), (.int .i64 t32_1), (.int .i64 t32_2)]⟩)]⟩ ((((w.alloc (.cells ⟨[(.bool false), (.int .i64 0), (.int .i64 0)]⟩ 28)).setCell ⟨w.heap.size, 0, none⟩ (.bool t30_0)).setCell ⟨w.heap.size, 1, none⟩ (.int .i64 t30_1)).setCell ⟨w.heap.size, 2, none⟩ (.int .i64 t30_2)) fun e w_ =>
    ∃ (t33 : Int),
    e = .returned (.int .i64 t33) ∧
    B1 ((IntKind.i64.wrap (t27 + 1)), ()) w_

def S6_k5 (t1 : Int) (t2 : Int) (t7 : Bool) (t8 : Option Addr) (t11_a : Option Addr) (t11_l : Nat) (t11_c : Nat) (t12_a : Option Addr) (t12_l : Nat) (t12_c : Nat) (t37 : Int) (w : World) (R : Value → World → Prop) (B1 : (Option Addr × Nat × Nat) × (Int) × Unit → World → Prop) : Prop :=
  Calls Try.prog 11 ⟨[(.pointer t8), (.int .i64 t37)]⟩ w fun e w_ =>
    ∃ (t43_a : Option Addr) (t43_l : Nat) (t43_c : Nat),
    e = .returned (.slice t43_a t43_l t43_c) ∧
    ∃ (t45_a : Option Addr) (t45_l : Nat) (t45_c : Nat) (w__1 : World),
    (Builtin.append_ #[45, 45] 45 ⟨[(.slice t12_a t12_l t12_c), (.slice (some ⟨w_.heap.size, 0, none⟩) 1 1)]⟩).run Try.prog (w_.alloc (.cells ⟨[(.slice t43_a t43_l t43_c)]⟩ 31)) = .ok (.slice t45_a t45_l t45_c) w__1 ∧
    B1 ((t45_a, t45_l, t45_c), (IntKind.i64.wrap (t37 + 1)), ()) w__1

def S6_k12 (t7 : Bool) (t8 : Option Addr) (t11_a : Option Addr) (t11_l : Nat) (t11_c : Nat) (t12_a : Option Addr) (t12_l : Nat) (t12_c : Nat) (t84 : Int) (t85 : Int) (t96 : Bool) (w : World) (R : Value → World → Prop) (B1 : (Int) × Unit → World → Prop) : Prop :=
  cond t96 (
    R (.bool false) w
  ) (
    B1 ((IntKind.i64.wrap (t85 + 1)), ()) w
  )

def S6_k11 (t7 : Bool) (t8 : Option Addr) (t11_a : Option Addr) (t11_l : Nat) (t11_c : Nat) (t12_a : Option Addr) (t12_l : Nat) (t12_c : Nat) (t84 : Int) (t85 : Int) (w : World) (R : Value → World → Prop) (B1 : (Int) × Unit → World → Prop) : Prop :=
  ∃ (t93 : Addr),
  t12_a = some t93 ∧
  0 ≤ (t85 : Int) ∧
  (t85 : Int) < ((t12_l : Nat) : Int) ∧
  (
    Calls Try.prog 11 ⟨[(.pointer t8), (.int .i64 t85)]⟩ w.drew fun e w_ =>
      ∃ (t90_a : Option Addr) (t90_l : Nat) (t90_c : Nat),
      e = .returned (.slice t90_a t90_l t90_c) ∧
      ∃ (t94_a : Option Addr) (t94_l : Nat) (t94_c : Nat),
      w_.cell? (t93.add (Int.toNat t85 * 1)) = some (.slice t94_a t94_l t94_c) ∧
      Calls Try.prog 12 ⟨[(.slice t90_a t90_l t90_c), (.slice t94_a t94_l t94_c)]⟩ w_ fun e w__1 =>
        ∃ (t95 : Bool),
        e = .returned (.bool t95) ∧
        S6_k12 t7 t8 t11_a t11_l t11_c t12_a t12_l t12_c t84 t85 (!t95) w__1 R B1
  ) ∧
  (
    ∃ (t94_a_1 : Option Addr) (t94_l_1 : Nat) (t94_c_1 : Nat),
    w.drew.cell? (t93.add (Int.toNat t85 * 1)) = some (.slice t94_a_1 t94_l_1 t94_c_1) ∧
    Calls Try.prog 11 ⟨[(.pointer t8), (.int .i64 t85)]⟩ w.drew fun e w__2 =>
      ∃ (t90_a_1 : Option Addr) (t90_l_1 : Nat) (t90_c_1 : Nat),
      e = .returned (.slice t90_a_1 t90_l_1 t90_c_1) ∧
      Calls Try.prog 12 ⟨[(.slice t90_a_1 t90_l_1 t90_c_1), (.slice t94_a_1 t94_l_1 t94_c_1)]⟩ w__2 fun e w__3 =>
        ∃ (t95_1 : Bool),
        e = .returned (.bool t95_1) ∧
        S6_k12 t7 t8 t11_a t11_l t11_c t12_a t12_l t12_c t84 t85 (!t95_1) w__3 R B1
  )

def S6_k13 (t7 : Bool) (t8 : Option Addr) (t11_a : Option Addr) (t11_l : Nat) (t11_c : Nat) (w : World) (R : Value → World → Prop) : Prop :=
  cond t7 (
    Calls Try.prog 18 ⟨[(.pointer t8)]⟩ w fun e w_ =>
      ∃ (t101_a : Option Addr) (t101_l : Nat) (t101_c : Nat),
      e = .returned (.slice t101_a t101_l t101_c) ∧
      Calls Try.prog 12 ⟨[(.slice t101_a t101_l t101_c), (.slice t11_a t11_l t11_c)]⟩ w_ fun e w__1 =>
        ∃ (t103 : Bool),
        e = .returned (.bool t103) ∧
        R (.bool t103) w__1
  ) (
    R (.bool false) w
  )

def S6_L10 (t7 : Bool) (t8 : Option Addr) (t11_a : Option Addr) (t11_l : Nat) (t11_c : Nat) (t12_a : Option Addr) (t12_l : Nat) (t12_c : Nat) (t84 : Int) (t85 : Int) (w : World) (R : Value → World → Prop) (B1 : (Int) × Unit → World → Prop) : Prop :=
  cond (decide ((t85 : Int) < t84)) (
    S6_k11 t7 t8 t11_a t11_l t11_c t12_a t12_l t12_c t84 t85 w R B1
  ) (
    S6_k13 t7 t8 t11_a t11_l t11_c w R
  )

def S6_k9 (t7 : Bool) (t8 : Option Addr) (t11_a : Option Addr) (t11_l : Nat) (t11_c : Nat) (t12_a : Option Addr) (t12_l : Nat) (t12_c : Nat) (w : World) (R : Value → World → Prop) : Prop :=
  ∃ (I : (Int) × Unit → World → Prop) (μ : (Int) × Unit → World → Nat),
  I (0, ()) w ∧
  ∀ (J : Env) (s : (Int) × Unit) (w' : World), I s w' →
    S6_L10 t7 t8 t11_a t11_l t11_c t12_a t12_l t12_c ((t12_l : Nat) : Int) s.1 w' R (fun s' w'' => I s' w'' ∧ μ s' w'' < μ s w')

def S6_k8 (t7 : Bool) (t8 : Option Addr) (t11_a : Option Addr) (t11_l : Nat) (t11_c : Nat) (t12_a : Option Addr) (t12_l : Nat) (t12_c : Nat) (t82 : Bool) (w : World) (R : Value → World → Prop) : Prop :=
  cond t82 (
    R (.bool false) w
  ) (
    S6_k9 t7 t8 t11_a t11_l t11_c t12_a t12_l t12_c w R
  )

def S6_k7 (t1 : Int) (t2 : Int) (t7 : Bool) (t8 : Option Addr) (t11_a : Option Addr) (t11_l : Nat) (t11_c : Nat) (t12_a : Option Addr) (t12_l : Nat) (t12_c : Nat) (t62 : Bool) (w : World) (R : Value → World → Prop) : Prop :=
  cond t62 (
    Calls Try.prog 15 ⟨[(.pointer t8), (.int .i64 t2)]⟩ w fun e w_ =>
      ∃ (t66_0 : Int) (t66_1 : Bool),
      e = .returned (.tuple ⟨[(.int .i64 t66_0), (.bool t66_1)]⟩) ∧
      cond (!decide ((t66_0 : Int) = t1)) (
        S6_k8 t7 t8 t11_a t11_l t11_c t12_a t12_l t12_c true w_ R
      ) (
        cond (!t66_1) (
          S6_k8 t7 t8 t11_a t11_l t11_c t12_a t12_l t12_c true w_ R
        ) (
          Calls Try.prog 21 ⟨[(.pointer t8), (.int .i64 t1), (.int .i64 t2)]⟩ w_ fun e w__1 =>
            ∃ (t80 : Int),
            e = .returned (.int .i64 t80) ∧
            S6_k8 t7 t8 t11_a t11_l t11_c t12_a t12_l t12_c (!decide ((t80 : Int) = 0)) w__1 R
        )
      )
  ) (
    S6_k9 t7 t8 t11_a t11_l t11_c t12_a t12_l t12_c w R
  )

def S6_k6 (t1 : Int) (t2 : Int) (t7 : Bool) (t8 : Option Addr) (t11_a : Option Addr) (t11_l : Nat) (t11_c : Nat) (t12_a : Option Addr) (t12_l : Nat) (t12_c : Nat) (w : World) (R : Value → World → Prop) : Prop :=
  Calls Try.prog 15 ⟨[(.pointer t8), (.int .i64 t2)]⟩ w fun e w_ =>
    ∃ (t50_0 : Int) (t50_1 : Bool),
    e = .returned (.tuple ⟨[(.int .i64 t50_0), (.bool t50_1)]⟩) ∧
    Calls Try.prog 20 ⟨[(.pointer t8), (.int .i64 t1), (.int .i64 t2)]⟩ w_ fun e w__1 =>
      ∃ (t56 : Int),
      e = .returned (.int .i64 t56) ∧
      cond (!t50_1) (
        S6_k7 t1 t2 t7 t8 t11_a t11_l t11_c t12_a t12_l t12_c (decide ((t56 : Int) = 0)) w__1 R
      ) (
        S6_k7 t1 t2 t7 t8 t11_a t11_l t11_c t12_a t12_l t12_c false w__1 R
      )

def S6_L4 (t1 : Int) (t2 : Int) (t7 : Bool) (t8 : Option Addr) (t11_a : Option Addr) (t11_l : Nat) (t11_c : Nat) (t12_a : Option Addr) (t12_l : Nat) (t12_c : Nat) (t37 : Int) (w : World) (R : Value → World → Prop) (B1 : (Option Addr × Nat × Nat) × (Int) × Unit → World → Prop) : Prop :=
  cond (decide ((t37 : Int) < 8)) (
    S6_k5 t1 t2 t7 t8 t11_a t11_l t11_c t12_a t12_l t12_c t37 w R B1
  ) (
    S6_k6 t1 t2 t7 t8 t11_a t11_l t11_c t12_a t12_l t12_c w R
  )

def S6_k3 (t1 : Int) (t2 : Int) (t7 : Bool) (t8 : Option Addr) (w : World) (R : Value → World → Prop) : Prop :=
  Calls Try.prog 18 ⟨[(.pointer t8)]⟩ w fun e w_ =>
    ∃ (t36_a : Option Addr) (t36_l : Nat) (t36_c : Nat),
    e = .returned (.slice t36_a t36_l t36_c) ∧
    ∃ (I : (Option Addr × Nat × Nat) × (Int) × Unit → World → Prop) (μ : (Option Addr × Nat × Nat) × (Int) × Unit → World → Nat),
    I ((none, 0, 0), 0, ()) w_ ∧
    ∀ (J : Env) (s : (Option Addr × Nat × Nat) × (Int) × Unit) (w' : World), I s w' →
      S6_L4 t1 t2 t7 t8 t36_a t36_l t36_c s.1.1 s.1.2.1 s.1.2.2 s.2.1 w' R (fun s' w'' => I s' w'' ∧ μ s' w'' < μ s w')

def S6_L1 (t1 : Int) (t2 : Int) (t7 : Bool) (t8 : Option Addr) (t25_a : Option Addr) (t25_l : Nat) (t25_c : Nat) (t26 : Int) (t27 : Int) (w : World) (R : Value → World → Prop) (B1 : (Int) × Unit → World → Prop) : Prop :=
  cond (decide ((t27 : Int) < t26)) (
    S6_k2 t1 t2 t7 t8 t25_a t25_l t25_c t26 t27 w R B1
  ) (
    S6_k3 t1 t2 t7 t8 w R
  )

def S6_k0 (l_a : Option Addr) (l_l : Nat) (l_c : Nat) (t1 : Int) (t2 : Int) (t7 : Bool) (t8 : Option Addr) (w : World) (R : Value → World → Prop) : Prop :=
  Calls Try.prog 9 ⟨[(.slice l_a l_l l_c)]⟩ w fun e w_ =>
    ∃ (t25_a : Option Addr) (t25_l : Nat) (t25_c : Nat),
    e = .returned (.slice t25_a t25_l t25_c) ∧
    ∃ (I : (Int) × Unit → World → Prop) (μ : (Int) × Unit → World → Nat),
    I (0, ()) w_ ∧
    ∀ (J : Env) (s : (Int) × Unit) (w' : World), I s w' →
      S6_L1 t1 t2 t7 t8 t25_a t25_l t25_c ((t25_l : Nat) : Int) s.1 w' R (fun s' w'' => I s' w'' ∧ μ s' w'' < μ s w')

def S6 (l_a : Option Addr) (l_l : Nat) (l_c : Nat) (x1 : Int) (x2 : Int) (w : World) (R : Value → World → Prop) : Prop :=
  Calls Try.prog 7 ⟨[]⟩ w fun e w_ =>
    ∃ (t20 : Bool),
    e = .returned (.bool t20) ∧
    Calls Try.prog 8 ⟨[]⟩ w_ fun e w__1 =>
      ∃ (t21 : Option Addr),
      e = .returned (.pointer t21) ∧
      cond (Option.isNone t21) (
        R (.bool false) w__1
      ) (
        S6_k0 l_a l_l l_c x1 x2 t20 t21 w__1 R
      )

theorem S6_eq (l_a : Option Addr) (l_l : Nat) (l_c : Nat) (x1 : Int) (x2 : Int) (w : World) (R : Value → World → Prop) : Eng.R Try.prog ⟨cal, S6_nx⟩ 105 S6_ann [] (Try.f6.body.getD .skip) (bodyQ Try.prog #[.tmp 6] R) (argE [(.slice l_a l_l l_c), (.int .i64 x1), (.int .i64 x2)]) w = S6 l_a l_l l_c x1 x2 w R := by kernel_rfl
/-- A call of 'carfax/carfaxlaw09.LockBack', by its condition. -/
theorem S6_calls {l_a : Option Addr} {l_l : Nat} {l_c : Nat} {x1 : Int} {x2 : Int} {w : World} {R : Value → World → Prop} (h : S6 l_a l_l l_c x1 x2 w R) : Ret Try.prog 6 [(.slice l_a l_l l_c), (.int .i64 x1), (.int .i64 x2)] w R :=
  R_calls (C := ⟨cal, S6_nx⟩) cal_ok follows Try.func6 (c := Try.f6.body.getD .skip) (res := #[.tmp 6]) (n := 105) (by kernel_rfl) (by kernel_rfl) (by kernel_rfl) (by kernel_rfl) ((S6_eq l_a l_l l_c x1 x2 w R).mpr h)

def S7_ann (p : List Nat) : Option LA :=
  none

def S7_nx (t : Nat) : Option (TypeId × TypeId) := none

def S7_k0 (t : Option Addr) (w : World) (R : Value → World → Prop) : Prop :=
  Calls Try.prog 20 ⟨[(.pointer t), (.int .i64 1), (.int .i64 5)]⟩ w fun e w_ =>
    ∃ (t12 : Int),
    e = .returned (.int .i64 t12) ∧
    Calls Try.prog 20 ⟨[(.pointer t), (.int .i64 2), (.int .i64 5)]⟩ w_ fun e w__1 =>
      ∃ (t14 : Int),
      e = .returned (.int .i64 t14) ∧
      Calls Try.prog 15 ⟨[(.pointer t), (.int .i64 5)]⟩ w__1 fun e w__2 =>
        ∃ (t17_0 : Int) (t17_1 : Bool),
        e = .returned (.tuple ⟨[(.int .i64 t17_0), (.bool t17_1)]⟩) ∧
        Calls Try.prog 21 ⟨[(.pointer t), (.int .i64 2), (.int .i64 5)]⟩ w__2 fun e w__3 =>
          ∃ (t21 : Int),
          e = .returned (.int .i64 t21) ∧
          Calls Try.prog 21 ⟨[(.pointer t), (.int .i64 1), (.int .i64 5)]⟩ w__3 fun e w__4 =>
            ∃ (t23 : Int),
            e = .returned (.int .i64 t23) ∧
            cond (decide ((t12 : Int) = 0)) (
              cond (decide ((t14 : Int) = 3)) (
                cond (decide ((t17_0 : Int) = 1)) (
                  cond t17_1 (
                    cond (decide ((t21 : Int) = 2)) (
                      R (.bool (decide ((t23 : Int) = 0))) w__4
                    ) (
                      R (.bool false) w__4
                    )
                  ) (
                    R (.bool false) w__4
                  )
                ) (
                  R (.bool false) w__4
                )
              ) (
                R (.bool false) w__4
              )
            ) (
              R (.bool false) w__4
            )

def S7 (w : World) (R : Value → World → Prop) : Prop :=
  Calls Try.prog 8 ⟨[]⟩ w fun e w_ =>
    ∃ (t8 : Option Addr),
    e = .returned (.pointer t8) ∧
    cond (Option.isNone t8) (
      R (.bool false) w_
    ) (
      S7_k0 t8 w_ R
    )

theorem S7_eq (w : World) (R : Value → World → Prop) : Eng.R Try.prog ⟨cal, S7_nx⟩ 45 S7_ann [] (Try.f7.body.getD .skip) (bodyQ Try.prog #[.tmp 0] R) (argE []) w = S7  w R := by kernel_rfl
/-- A call of 'carfax/carfaxlaw09.shown', by its condition. -/
theorem S7_calls {w : World} {R : Value → World → Prop} (h : S7  w R) : Ret Try.prog 7 [] w R :=
  R_calls (C := ⟨cal, S7_nx⟩) cal_ok follows Try.func7 (c := Try.f7.body.getD .skip) (res := #[.tmp 0]) (n := 45) (by kernel_rfl) (by kernel_rfl) (by kernel_rfl) (by kernel_rfl) ((S7_eq  w R).mpr h)

def S8_ann (p : List Nat) : Option LA :=
  none

def S8_nx (t : Nat) : Option (TypeId × TypeId) := none

def S8 (w : World) (R : Value → World → Prop) : Prop :=
  R (.pointer (some ⟨w.heap.size, 0, none⟩)) (w.alloc (.cells ⟨[(.int .i64 0), (.int .i64 0), (.int .i64 0), (.int .i64 0), (.int .i64 0), (.int .i64 0), (.int .i64 0), (.int .i64 0), (.int .i64 0), (.int .i64 0), (.int .i64 0), (.int .i64 0), (.int .i64 0), (.int .i64 0), (.int .i64 0), (.int .i64 0), (.int .i64 0), (.int .i64 0), (.int .i64 0), (.int .i64 0), (.int .i64 0), (.int .i64 0), (.int .i64 0), (.int .i64 0), (.int .i64 0), (.int .i64 0)]⟩ 48))

theorem S8_eq (w : World) (R : Value → World → Prop) : Eng.R Try.prog ⟨cal, S8_nx⟩ 2 S8_ann [] (Try.f8.body.getD .skip) (bodyQ Try.prog #[.tmp 0] R) (argE []) w = S8  w R := by kernel_rfl
/-- A call of 'carfax/lock.New', by its condition. -/
theorem S8_calls {w : World} {R : Value → World → Prop} (h : S8  w R) : Ret Try.prog 8 [] w R :=
  R_calls (C := ⟨cal, S8_nx⟩) cal_ok follows Try.func8 (c := Try.f8.body.getD .skip) (res := #[.tmp 0]) (n := 2) (by kernel_rfl) (by kernel_rfl) (by kernel_rfl) (by kernel_rfl) ((S8_eq  w R).mpr h)

def S9_ann (p : List Nat) : Option LA :=
  none

def S9_nx (t : Nat) : Option (TypeId × TypeId) := none

def S9 (l_a : Option Addr) (l_l : Nat) (l_c : Nat) (w : World) (R : Value → World → Prop) : Prop :=
  0 ≤ ((if 300 < ((l_l : Nat) : Int) then 300 else ((l_l : Nat) : Int)) : Int) ∧
  ((if 300 < ((l_l : Nat) : Int) then 300 else ((l_l : Nat) : Int)) : Int) ≤ ((l_c : Nat) : Int) ∧
  R (.slice (slAddr l_a l_c 0 3) ((Int.toNat (if 300 < ((l_l : Nat) : Int) then 300 else ((l_l : Nat) : Int))) - 0) (l_c - 0)) w

theorem S9_eq (l_a : Option Addr) (l_l : Nat) (l_c : Nat) (w : World) (R : Value → World → Prop) : Eng.R Try.prog ⟨cal, S9_nx⟩ 8 S9_ann [] (Try.f9.body.getD .skip) (bodyQ Try.prog #[.tmp 2] R) (argE [(.slice l_a l_l l_c)]) w = S9 l_a l_l l_c w R := by kernel_rfl
/-- A call of 'carfax/carfaxlaw09.few', by its condition. -/
theorem S9_calls {l_a : Option Addr} {l_l : Nat} {l_c : Nat} {w : World} {R : Value → World → Prop} (h : S9 l_a l_l l_c w R) : Ret Try.prog 9 [(.slice l_a l_l l_c)] w R :=
  R_calls (C := ⟨cal, S9_nx⟩) cal_ok follows Try.func9 (c := Try.f9.body.getD .skip) (res := #[.tmp 2]) (n := 8) (by kernel_rfl) (by kernel_rfl) (by kernel_rfl) (by kernel_rfl) ((S9_eq l_a l_l l_c w R).mpr h)

def S10_ann (p : List Nat) : Option LA :=
  none

def S10_nx (t : Nat) : Option (TypeId × TypeId) := none

def S10_k0 (t : Option Addr) (a : Addr) (w : World) (R : Value → World → Prop) : Prop :=
  ∃ (t15 : Int),
  w.cell? (a.add 1) = some (.int .i64 t15) ∧
  ∃ (t17 : Int),
  w.cell? (a.add 2) = some (.int .i64 t17) ∧
  Calls Try.prog 20 ⟨[(.pointer t), (.int .i64 t15), (.int .i64 t17)]⟩ w fun e w_ =>
    ∃ (t18 : Int),
    e = .returned (.int .i64 t18) ∧
    R (.int .i64 t18) w_

def S10 (t : Option Addr) (a_0 : Bool) (a_1 : Int) (a_2 : Int) (w : World) (R : Value → World → Prop) : Prop :=
  ∃ (t6 : Bool),
  (w.alloc (.cells ⟨[(.bool a_0), (.int .i64 a_1), (.int .i64 a_2)]⟩ 28)).cell? ⟨w.heap.size, 0, none⟩ = some (.bool t6) ∧
  cond t6 (
    ∃ (t9 : Int),
    (w.alloc (.cells ⟨[(.bool a_0), (.int .i64 a_1), (.int .i64 a_2)]⟩ 28)).cell? ⟨w.heap.size, 1, none⟩ = some (.int .i64 t9) ∧
    ∃ (t11 : Int),
    (w.alloc (.cells ⟨[(.bool a_0), (.int .i64 a_1), (.int .i64 a_2)]⟩ 28)).cell? ⟨w.heap.size, 2, none⟩ = some (.int .i64 t11) ∧
    Calls Try.prog 21 ⟨[(.pointer t), (.int .i64 t9), (.int .i64 t11)]⟩ (w.alloc (.cells ⟨[(.bool a_0), (.int .i64 a_1), (.int .i64 a_2)]⟩ 28)) fun e w_ =>
      ∃ (t12 : Int),
      e = .returned (.int .i64 t12) ∧
      R (.int .i64 t12) w_
  ) (
    S10_k0 t ⟨w.heap.size, 0, none⟩ (w.alloc (.cells ⟨[(.bool a_0), (.int .i64 a_1), (.int .i64 a_2)]⟩ 28)) R
  )

theorem S10_eq (t : Option Addr) (a_0 : Bool) (a_1 : Int) (a_2 : Int) (w : World) (R : Value → World → Prop) : Eng.R Try.prog ⟨cal, S10_nx⟩ 19 S10_ann [] (Try.f10.body.getD .skip) (bodyQ Try.prog #[.tmp 4] R) (argE [(.pointer t), (.agg ⟨[(.bool a_0), (.int .i64 a_1), (.int .i64 a_2)]⟩)]) w = S10 t a_0 a_1 a_2 w R := by kernel_rfl
/-- A call of 'carfax/carfaxlaw09.does', by its condition. -/
theorem S10_calls {t : Option Addr} {a_0 : Bool} {a_1 : Int} {a_2 : Int} {w : World} {R : Value → World → Prop} (h : S10 t a_0 a_1 a_2 w R) : Ret Try.prog 10 [(.pointer t), (.agg ⟨[(.bool a_0), (.int .i64 a_1), (.int .i64 a_2)]⟩)] w R :=
  R_calls (C := ⟨cal, S10_nx⟩) cal_ok follows Try.func10 (c := Try.f10.body.getD .skip) (res := #[.tmp 4]) (n := 19) (by kernel_rfl) (by kernel_rfl) (by kernel_rfl) (by kernel_rfl) ((S10_eq t a_0 a_1 a_2 w R).mpr h)

def S11_ann (p : List Nat) : Option LA :=
  none

def S11_nx (t : Nat) : Option (TypeId × TypeId) := none

def S11_k1 (t : Option Addr) (robot : Int) (w : World) (R : Value → World → Prop) : Prop :=
  Calls Try.prog 22 ⟨[(.pointer t), (.int .i64 (IntKind.i64.wrap (robot + 1)))]⟩ w fun e w_ =>
    ∃ (t14_a : Option Addr) (t14_l : Nat) (t14_c : Nat),
    e = .returned (.slice t14_a t14_l t14_c) ∧
    R (.slice t14_a t14_l t14_c) w_

def S11_k0 (t : Option Addr) (robot : Int) (t10 : Bool) (w : World) (R : Value → World → Prop) : Prop :=
  cond t10 (
    R (.slice none 0 0) w
  ) (
    S11_k1 t robot w R
  )

def S11 (t : Option Addr) (robot : Int) (w : World) (R : Value → World → Prop) : Prop :=
  cond (decide ((robot : Int) < 0)) (
    S11_k0 t robot true w R
  ) (
    S11_k0 t robot (decide ((8 : Int) ≤ robot)) w R
  )

theorem S11_eq (t : Option Addr) (robot : Int) (w : World) (R : Value → World → Prop) : Eng.R Try.prog ⟨cal, S11_nx⟩ 15 S11_ann [] (Try.f11.body.getD .skip) (bodyQ Try.prog #[.tmp 4] R) (argE [(.pointer t), (.int .i64 robot)]) w = S11 t robot w R := by kernel_rfl
/-- A call of '(*carfax/lock.Table).Of', by its condition. -/
theorem S11_calls {t : Option Addr} {robot : Int} {w : World} {R : Value → World → Prop} (h : S11 t robot w R) : Ret Try.prog 11 [(.pointer t), (.int .i64 robot)] w R :=
  R_calls (C := ⟨cal, S11_nx⟩) cal_ok follows Try.func11 (c := Try.f11.body.getD .skip) (res := #[.tmp 4]) (n := 15) (by kernel_rfl) (by kernel_rfl) (by kernel_rfl) (by kernel_rfl) ((S11_eq t robot w R).mpr h)

def S12_ann (p : List Nat) : Option LA := match p with
  | [0, 1, 0, 1, 1] => some ⟨[0, 1], [(5, .one (.int .i64))]⟩
  | _ => none

def S12_nx (t : Nat) : Option (TypeId × TypeId) := none

def S12_k3 (a_a : Option Addr) (a_l : Nat) (a_c : Nat) (b_a : Option Addr) (b_l : Nat) (b_c : Nat) (i : Int) (t25 : Bool) (w : World) (R : Value → World → Prop) (B1 : (Int) × Unit → World → Prop) : Prop :=
  cond t25 (
    R (.bool false) w
  ) (
    B1 ((IntKind.i64.wrap (i + 1)), ()) w
  )

def S12_k2 (a_a : Option Addr) (a_l : Nat) (a_c : Nat) (b_a : Option Addr) (b_l : Nat) (b_c : Nat) (i : Int) (w : World) (R : Value → World → Prop) (B1 : (Int) × Unit → World → Prop) : Prop :=
  ∃ (t19 : Addr),
  a_a = some t19 ∧
  0 ≤ (i : Int) ∧
  (i : Int) < ((a_l : Nat) : Int) ∧
  ∃ (t20 : Int),
  w.drew.cell? (t19.add (Int.toNat i * 1)) = some (.int .i64 t20) ∧
  ∃ (t23 : Addr),
  b_a = some t23 ∧
  0 ≤ (i : Int) ∧
  (i : Int) < ((b_l : Nat) : Int) ∧
  ∃ (t24 : Int),
  w.drew.cell? (t23.add (Int.toNat i * 1)) = some (.int .i64 t24) ∧
  S12_k3 a_a a_l a_c b_a b_l b_c i (!decide ((t20 : Int) = t24)) w.drew R B1

def S12_L1 (a_a : Option Addr) (a_l : Nat) (a_c : Nat) (b_a : Option Addr) (b_l : Nat) (b_c : Nat) (i : Int) (w : World) (R : Value → World → Prop) (B1 : (Int) × Unit → World → Prop) : Prop :=
  cond (decide ((i : Int) < ((a_l : Nat) : Int))) (
    S12_k2 a_a a_l a_c b_a b_l b_c i w R B1
  ) (
    R (.bool true) w
  )

def S12_k0 (a_a : Option Addr) (a_l : Nat) (a_c : Nat) (b_a : Option Addr) (b_l : Nat) (b_c : Nat) (w : World) (R : Value → World → Prop) : Prop :=
  ∃ (I : (Int) × Unit → World → Prop) (μ : (Int) × Unit → World → Nat),
  I (0, ()) w ∧
  ∀ (J : Env) (s : (Int) × Unit) (w' : World), I s w' →
    S12_L1 a_a a_l a_c b_a b_l b_c s.1 w' R (fun s' w'' => I s' w'' ∧ μ s' w'' < μ s w')

def S12 (a_a : Option Addr) (a_l : Nat) (a_c : Nat) (b_a : Option Addr) (b_l : Nat) (b_c : Nat) (w : World) (R : Value → World → Prop) : Prop :=
  cond (!decide ((((a_l : Nat) : Int) : Int) = ((b_l : Nat) : Int))) (
    R (.bool false) w
  ) (
    S12_k0 a_a a_l a_c b_a b_l b_c w R
  )

theorem S12_eq (a_a : Option Addr) (a_l : Nat) (a_c : Nat) (b_a : Option Addr) (b_l : Nat) (b_c : Nat) (w : World) (R : Value → World → Prop) : Eng.R Try.prog ⟨cal, S12_nx⟩ 26 S12_ann [] (Try.f12.body.getD .skip) (bodyQ Try.prog #[.tmp 4] R) (argE [(.slice a_a a_l a_c), (.slice b_a b_l b_c)]) w = S12 a_a a_l a_c b_a b_l b_c w R := by kernel_rfl
/-- A call of 'carfax/carfaxref03.SameInts', by its condition. -/
theorem S12_calls {a_a : Option Addr} {a_l : Nat} {a_c : Nat} {b_a : Option Addr} {b_l : Nat} {b_c : Nat} {w : World} {R : Value → World → Prop} (h : S12 a_a a_l a_c b_a b_l b_c w R) : Ret Try.prog 12 [(.slice a_a a_l a_c), (.slice b_a b_l b_c)] w R :=
  R_calls (C := ⟨cal, S12_nx⟩) cal_ok follows Try.func12 (c := Try.f12.body.getD .skip) (res := #[.tmp 4]) (n := 26) (by kernel_rfl) (by kernel_rfl) (by kernel_rfl) (by kernel_rfl) ((S12_eq a_a a_l a_c b_a b_l b_c w R).mpr h)

def S13_ann (p : List Nat) : Option LA :=
  none

def S13_nx (t : Nat) : Option (TypeId × TypeId) := none

def S13_k2 (t : Option Addr) (robot : Int) (zone : Int) (is : Bool) (w : World) (R : Value → World → Prop) : Prop :=
  cond (!is) (
    ∃ (t29 : Addr),
    t = some t29 ∧
    ∃ (t31_a : Option Addr) (t31_l : Nat) (t31_c : Nat),
    w.cell? t29 = some (.slice t31_a t31_l t31_c) ∧
    ∃ (t36_a : Option Addr) (t36_l : Nat) (t36_c : Nat) (w_ : World),
    (Builtin.append_ #[36, 36] 36 ⟨[(.slice t31_a t31_l t31_c), (.slice (some ⟨w.heap.size, 0, none⟩) 1 1)]⟩).run Try.prog (w.alloc (.cells ⟨[(.int .i64 robot), (.int .i64 zone)]⟩ 51)) = .ok (.slice t36_a t36_l t36_c) w_ ∧
    ∃ (t37 : Addr),
    t = some t37 ∧
    (∃ u, w_.cell? t37 = some u) ∧
    w_.frozen? t37 = false ∧
    R (.int .i64 0) (w_.setCell t37 (.slice t36_a t36_l t36_c))
  ) (
    R (.int .i64 0) w
  )

def S13_k1 (t : Option Addr) (robot : Int) (zone : Int) (is : Bool) (t24 : Bool) (w : World) (R : Value → World → Prop) : Prop :=
  cond t24 (
    R (.int .i64 3) w
  ) (
    S13_k2 t robot zone is w R
  )

def S13_k0 (t : Option Addr) (robot : Int) (zone : Int) (w : World) (R : Value → World → Prop) : Prop :=
  Calls Try.prog 16 ⟨[(.pointer t), (.int .i64 zone)]⟩ w fun e w_ =>
    ∃ (t16_0 : Int) (t16_1 : Bool),
    e = .returned (.tuple ⟨[(.int .i64 t16_0), (.bool t16_1)]⟩) ∧
    cond t16_1 (
      S13_k1 t robot zone t16_1 (!decide ((t16_0 : Int) = robot)) w_ R
    ) (
      S13_k1 t robot zone t16_1 false w_ R
    )

def S13 (t : Option Addr) (robot : Int) (zone : Int) (w : World) (R : Value → World → Prop) : Prop :=
  Calls Try.prog 23 ⟨[(.int .i64 robot), (.int .i64 zone)]⟩ w fun e w_ =>
    ∃ (t11 : Bool),
    e = .returned (.bool t11) ∧
    cond (!t11) (
      R (.int .i64 1) w_
    ) (
      S13_k0 t robot zone w_ R
    )

theorem S13_eq (t : Option Addr) (robot : Int) (zone : Int) (w : World) (R : Value → World → Prop) : Eng.R Try.prog ⟨cal, S13_nx⟩ 39 S13_ann [] (Try.f13.body.getD .skip) (bodyQ Try.prog #[.tmp 6] R) (argE [(.pointer t), (.int .i64 robot), (.int .i64 zone)]) w = S13 t robot zone w R := by kernel_rfl
/-- A call of '(*carfax/carfaxref09.Table).Hold', by its condition. -/
theorem S13_calls {t : Option Addr} {robot : Int} {zone : Int} {w : World} {R : Value → World → Prop} (h : S13 t robot zone w R) : Ret Try.prog 13 [(.pointer t), (.int .i64 robot), (.int .i64 zone)] w R :=
  R_calls (C := ⟨cal, S13_nx⟩) cal_ok follows Try.func13 (c := Try.f13.body.getD .skip) (res := #[.tmp 6]) (n := 39) (by kernel_rfl) (by kernel_rfl) (by kernel_rfl) (by kernel_rfl) ((S13_eq t robot zone w R).mpr h)

def S14_ann (p : List Nat) : Option LA := match p with
  | [0, 1, 0, 1, 1] => some ⟨[0, 1, 2], [(7, .one (.int .i64))]⟩
  | _ => none

def S14_nx (t : Nat) : Option (TypeId × TypeId) := none

def S14_k2 (t : Option Addr) (robot : Int) (zone : Int) (i : Int) (w : World) (R : Value → World → Prop) (B1 : (Int) × Unit → World → Prop) : Prop :=
  ∃ (t23 : Addr),
  t = some t23 ∧
  ∃ (t25_a : Option Addr) (t25_l : Nat) (t25_c : Nat),
  w.cell? t23 = some (.slice t25_a t25_l t25_c) ∧
  ∃ (t27 : Addr),
  t25_a = some t27 ∧
  0 ≤ (i : Int) ∧
  (i : Int) < ((t25_l : Nat) : Int) ∧
  ∃ (t28_0 : Int),
  w.cell? (t27.add (Int.toNat i * 2)) = some (.int .i64 t28_0) ∧
  ∃ (t28_1 : Int),
  w.cell? ((t27.add (Int.toNat i * 2)).add 1) = some (.int .i64 t28_1) ∧
  ∃ (t32 : Bool) (w_ : World),
  (do eqGuard .eql 51 (.tmp 28) (.tmp 31) (.agg ⟨[(.int .i64 t28_0), (.int .i64 t28_1)]⟩) (.agg ⟨[(.int .i64 robot), (.int .i64 zone)]⟩); binOp .eql 51 (.agg ⟨[(.int .i64 t28_0), (.int .i64 t28_1)]⟩) (.agg ⟨[(.int .i64 robot), (.int .i64 zone)]⟩)).run Try.prog w = .ok (.bool t32) w_ ∧
  cond t32 (
    ∃ (t35 : Addr),
    t = some t35 ∧
    ∃ (t37_a : Option Addr) (t37_l : Nat) (t37_c : Nat),
    (w_.alloc (.cells ⟨[]⟩ 51)).cell? t35 = some (.slice t37_a t37_l t37_c) ∧
    0 ≤ (i : Int) ∧
    (i : Int) ≤ ((t37_c : Nat) : Int) ∧
    ∃ (t40_a : Option Addr) (t40_l : Nat) (t40_c : Nat) (w__1 : World),
    (Builtin.append_ #[36, 36] 36 ⟨[(.slice (some ⟨w_.heap.size, 0, none⟩) 0 0), (.slice (slAddr t37_a t37_c 0 2) ((Int.toNat i) - 0) (t37_c - 0))]⟩).run Try.prog (w_.alloc (.cells ⟨[]⟩ 51)) = .ok (.slice t40_a t40_l t40_c) w__1 ∧
    ∃ (t43 : Addr),
    t = some t43 ∧
    ∃ (t45_a : Option Addr) (t45_l : Nat) (t45_c : Nat),
    w__1.cell? t43 = some (.slice t45_a t45_l t45_c) ∧
    0 ≤ ((IntKind.i64.wrap (i + 1)) : Int) ∧
    ((IntKind.i64.wrap (i + 1)) : Int) ≤ ((t45_l : Nat) : Int) ∧
    ∃ (t49_a : Option Addr) (t49_l : Nat) (t49_c : Nat) (w__2 : World),
    (Builtin.append_ #[36, 36] 36 ⟨[(.slice t40_a t40_l t40_c), (.slice (slAddr t45_a t45_c (Int.toNat (IntKind.i64.wrap (i + 1))) 2) (t45_l - (Int.toNat (IntKind.i64.wrap (i + 1)))) (t45_c - (Int.toNat (IntKind.i64.wrap (i + 1)))))]⟩).run Try.prog w__1 = .ok (.slice t49_a t49_l t49_c) w__2 ∧
    ∃ (t52 : Addr),
    t = some t52 ∧
    (∃ u, w__2.cell? t52 = some u) ∧
    w__2.frozen? t52 = false ∧
    R (.int .i64 0) (w__2.setCell t52 (.slice t49_a t49_l t49_c))
  ) (
    B1 ((IntKind.i64.wrap (i + 1)), ()) w_
  )

def S14_L1 (t : Option Addr) (robot : Int) (zone : Int) (i : Int) (w : World) (R : Value → World → Prop) (B1 : (Int) × Unit → World → Prop) : Prop :=
  ∃ (t15 : Addr),
  t = some t15 ∧
  ∃ (t17_a : Option Addr) (t17_l : Nat) (t17_c : Nat),
  w.cell? t15 = some (.slice t17_a t17_l t17_c) ∧
  cond (decide ((i : Int) < ((t17_l : Nat) : Int))) (
    S14_k2 t robot zone i w R B1
  ) (
    R (.int .i64 2) w
  )

def S14_k0 (t : Option Addr) (robot : Int) (zone : Int) (w : World) (R : Value → World → Prop) : Prop :=
  ∃ (I : (Int) × Unit → World → Prop) (μ : (Int) × Unit → World → Nat),
  I (0, ()) w ∧
  ∀ (J : Env) (s : (Int) × Unit) (w' : World), I s w' →
    S14_L1 t robot zone s.1 w' R (fun s' w'' => I s' w'' ∧ μ s' w'' < μ s w')

def S14 (t : Option Addr) (robot : Int) (zone : Int) (w : World) (R : Value → World → Prop) : Prop :=
  Calls Try.prog 23 ⟨[(.int .i64 robot), (.int .i64 zone)]⟩ w fun e w_ =>
    ∃ (t11 : Bool),
    e = .returned (.bool t11) ∧
    cond (!t11) (
      R (.int .i64 1) w_
    ) (
      S14_k0 t robot zone w_ R
    )

theorem S14_eq (t : Option Addr) (robot : Int) (zone : Int) (w : World) (R : Value → World → Prop) : Eng.R Try.prog ⟨cal, S14_nx⟩ 54 S14_ann [] (Try.f14.body.getD .skip) (bodyQ Try.prog #[.tmp 6] R) (argE [(.pointer t), (.int .i64 robot), (.int .i64 zone)]) w = S14 t robot zone w R := by kernel_rfl
/-- A call of '(*carfax/carfaxref09.Table).Release', by its condition. -/
theorem S14_calls {t : Option Addr} {robot : Int} {zone : Int} {w : World} {R : Value → World → Prop} (h : S14 t robot zone w R) : Ret Try.prog 14 [(.pointer t), (.int .i64 robot), (.int .i64 zone)] w R :=
  R_calls (C := ⟨cal, S14_nx⟩) cal_ok follows Try.func14 (c := Try.f14.body.getD .skip) (res := #[.tmp 6]) (n := 54) (by kernel_rfl) (by kernel_rfl) (by kernel_rfl) (by kernel_rfl) ((S14_eq t robot zone w R).mpr h)

def S15_ann (p : List Nat) : Option LA :=
  none

def S15_nx (t : Nat) : Option (TypeId × TypeId) := none

def S15_k1 (t : Option Addr) (zone : Int) (w : World) (R : Value → World → Prop) : Prop :=
  ∃ (t27 : Addr),
  t = some t27 ∧
  0 ≤ (zone : Int) ∧
  (zone : Int) < ((26 : Nat) : Int) ∧
  ∃ (t30 : Int),
  w.cell? (Addr.add t27 (Int.toNat zone * 1)) = some (.int .i64 t30) ∧
  R (.tuple ⟨[(.int .i64 (IntKind.i64.wrap (t30 - 1))), (.bool true)]⟩) w

def S15_k0 (t : Option Addr) (zone : Int) (t24 : Bool) (w : World) (R : Value → World → Prop) : Prop :=
  cond t24 (
    R (.tuple ⟨[(.int .i64 0), (.bool false)]⟩) w
  ) (
    S15_k1 t zone w R
  )

def S15 (t : Option Addr) (zone : Int) (w : World) (R : Value → World → Prop) : Prop :=
  cond (Option.isNone t) (
    S15_k0 t zone true w R
  ) (
    cond (decide ((zone : Int) < 0)) (
      S15_k0 t zone true w R
    ) (
      cond (decide ((26 : Int) ≤ zone)) (
        S15_k0 t zone true w R
      ) (
        ∃ (t19 : Addr),
        t = some t19 ∧
        0 ≤ (zone : Int) ∧
        (zone : Int) < ((26 : Nat) : Int) ∧
        ∃ (t22 : Int),
        w.cell? (Addr.add t19 (Int.toNat zone * 1)) = some (.int .i64 t22) ∧
        S15_k0 t zone (decide ((t22 : Int) = 0)) w R
      )
    )
  )

theorem S15_eq (t : Option Addr) (zone : Int) (w : World) (R : Value → World → Prop) : Eng.R Try.prog ⟨cal, S15_nx⟩ 32 S15_ann [] (Try.f15.body.getD .skip) (bodyQ Try.prog #[.tmp 4, .tmp 5] R) (argE [(.pointer t), (.int .i64 zone)]) w = S15 t zone w R := by kernel_rfl
/-- A call of '(*carfax/lock.Table).Owner', by its condition. -/
theorem S15_calls {t : Option Addr} {zone : Int} {w : World} {R : Value → World → Prop} (h : S15 t zone w R) : Ret Try.prog 15 [(.pointer t), (.int .i64 zone)] w R :=
  R_calls (C := ⟨cal, S15_nx⟩) cal_ok follows Try.func15 (c := Try.f15.body.getD .skip) (res := #[.tmp 4, .tmp 5]) (n := 32) (by kernel_rfl) (by kernel_rfl) (by kernel_rfl) (by kernel_rfl) ((S15_eq t zone w R).mpr h)

def S16_ann (p : List Nat) : Option LA := match p with
  | [0, 1, 0, 1] => some ⟨[0, 1], [(6, .one (.int .i64))]⟩
  | _ => none

def S16_nx (t : Nat) : Option (TypeId × TypeId) := none

def S16_k1 (t : Option Addr) (zone : Int) (i : Int) (w : World) (R : Value → World → Prop) (B1 : (Int) × Unit → World → Prop) : Prop :=
  ∃ (t17 : Addr),
  t = some t17 ∧
  ∃ (t19_a : Option Addr) (t19_l : Nat) (t19_c : Nat),
  w.cell? t17 = some (.slice t19_a t19_l t19_c) ∧
  ∃ (t21 : Addr),
  t19_a = some t21 ∧
  0 ≤ (i : Int) ∧
  (i : Int) < ((t19_l : Nat) : Int) ∧
  ∃ (t23 : Int),
  w.cell? ((t21.add (Int.toNat i * 2)).add 1) = some (.int .i64 t23) ∧
  cond (decide ((t23 : Int) = zone)) (
    ∃ (t27 : Addr),
    t = some t27 ∧
    ∃ (t29_a : Option Addr) (t29_l : Nat) (t29_c : Nat),
    w.cell? t27 = some (.slice t29_a t29_l t29_c) ∧
    ∃ (t31 : Addr),
    t29_a = some t31 ∧
    0 ≤ (i : Int) ∧
    (i : Int) < ((t29_l : Nat) : Int) ∧
    ∃ (t33 : Int),
    w.cell? (t31.add (Int.toNat i * 2)) = some (.int .i64 t33) ∧
    R (.tuple ⟨[(.int .i64 t33), (.bool true)]⟩) w
  ) (
    B1 ((IntKind.i64.wrap (i + 1)), ()) w
  )

def S16_L0 (t : Option Addr) (zone : Int) (i : Int) (w : World) (R : Value → World → Prop) (B1 : (Int) × Unit → World → Prop) : Prop :=
  ∃ (t9 : Addr),
  t = some t9 ∧
  ∃ (t11_a : Option Addr) (t11_l : Nat) (t11_c : Nat),
  w.cell? t9 = some (.slice t11_a t11_l t11_c) ∧
  cond (decide ((i : Int) < ((t11_l : Nat) : Int))) (
    S16_k1 t zone i w R B1
  ) (
    R (.tuple ⟨[(.int .i64 0), (.bool false)]⟩) w
  )

def S16 (t : Option Addr) (zone : Int) (w : World) (R : Value → World → Prop) : Prop :=
  ∃ (I : (Int) × Unit → World → Prop) (μ : (Int) × Unit → World → Nat),
  I (0, ()) w ∧
  ∀ (J : Env) (s : (Int) × Unit) (w' : World), I s w' →
    S16_L0 t zone s.1 w' R (fun s' w'' => I s' w'' ∧ μ s' w'' < μ s w')

theorem S16_eq (t : Option Addr) (zone : Int) (w : World) (R : Value → World → Prop) : Eng.R Try.prog ⟨cal, S16_nx⟩ 34 S16_ann [] (Try.f16.body.getD .skip) (bodyQ Try.prog #[.tmp 4, .tmp 5] R) (argE [(.pointer t), (.int .i64 zone)]) w = S16 t zone w R := by kernel_rfl
/-- A call of '(*carfax/carfaxref09.Table).Owner', by its condition. -/
theorem S16_calls {t : Option Addr} {zone : Int} {w : World} {R : Value → World → Prop} (h : S16 t zone w R) : Ret Try.prog 16 [(.pointer t), (.int .i64 zone)] w R :=
  R_calls (C := ⟨cal, S16_nx⟩) cal_ok follows Try.func16 (c := Try.f16.body.getD .skip) (res := #[.tmp 4, .tmp 5]) (n := 34) (by kernel_rfl) (by kernel_rfl) (by kernel_rfl) (by kernel_rfl) ((S16_eq t zone w R).mpr h)

def S17_ann (p : List Nat) : Option LA := match p with
  | [0, 1, 0, 1, 1] => some ⟨[0, 1], [(5, .one .slice), (6, .one (.int .i64))]⟩
  | _ => none

def S17_nx (t : Nat) : Option (TypeId × TypeId) := none

def S17_k2 (t : Option Addr) (robot : Int) (l_a : Option Addr) (l_l : Nat) (l_c : Nat) (z : Int) (t24 : Bool) (w : World) (R : Value → World → Prop) (B1 : (Option Addr × Nat × Nat) × (Int) × Unit → World → Prop) : Prop :=
  cond t24 (
    ∃ (t28_a : Option Addr) (t28_l : Nat) (t28_c : Nat) (w_ : World),
    (Builtin.append_ #[31, 31] 31 ⟨[(.slice l_a l_l l_c), (.slice (some ⟨w.heap.size, 0, none⟩) 1 1)]⟩).run Try.prog (w.alloc (.cells ⟨[(.int .i64 z)]⟩ 3)) = .ok (.slice t28_a t28_l t28_c) w_ ∧
    B1 ((t28_a, t28_l, t28_c), (IntKind.i64.wrap (z + 1)), ()) w_
  ) (
    B1 ((l_a, l_l, l_c), (IntKind.i64.wrap (z + 1)), ()) w
  )

def S17_k1 (t : Option Addr) (robot : Int) (l_a : Option Addr) (l_l : Nat) (l_c : Nat) (z : Int) (w : World) (R : Value → World → Prop) (B1 : (Option Addr × Nat × Nat) × (Int) × Unit → World → Prop) : Prop :=
  Calls Try.prog 16 ⟨[(.pointer t), (.int .i64 z)]⟩ w fun e w_ =>
    ∃ (t16_0 : Int) (t16_1 : Bool),
    e = .returned (.tuple ⟨[(.int .i64 t16_0), (.bool t16_1)]⟩) ∧
    cond t16_1 (
      S17_k2 t robot l_a l_l l_c z (decide ((t16_0 : Int) = robot)) w_ R B1
    ) (
      S17_k2 t robot l_a l_l l_c z false w_ R B1
    )

def S17_L0 (t : Option Addr) (robot : Int) (l_a : Option Addr) (l_l : Nat) (l_c : Nat) (z : Int) (w : World) (R : Value → World → Prop) (B1 : (Option Addr × Nat × Nat) × (Int) × Unit → World → Prop) : Prop :=
  cond (decide ((z : Int) < 26)) (
    S17_k1 t robot l_a l_l l_c z w R B1
  ) (
    R (.slice l_a l_l l_c) w
  )

def S17 (t : Option Addr) (robot : Int) (w : World) (R : Value → World → Prop) : Prop :=
  ∃ (I : (Option Addr × Nat × Nat) × (Int) × Unit → World → Prop) (μ : (Option Addr × Nat × Nat) × (Int) × Unit → World → Nat),
  I ((none, 0, 0), 0, ()) w ∧
  ∀ (J : Env) (s : (Option Addr × Nat × Nat) × (Int) × Unit) (w' : World), I s w' →
    S17_L0 t robot s.1.1 s.1.2.1 s.1.2.2 s.2.1 w' R (fun s' w'' => I s' w'' ∧ μ s' w'' < μ s w')

theorem S17_eq (t : Option Addr) (robot : Int) (w : World) (R : Value → World → Prop) : Eng.R Try.prog ⟨cal, S17_nx⟩ 30 S17_ann [] (Try.f17.body.getD .skip) (bodyQ Try.prog #[.tmp 4] R) (argE [(.pointer t), (.int .i64 robot)]) w = S17 t robot w R := by kernel_rfl
/-- A call of '(*carfax/carfaxref09.Table).Of', by its condition. -/
theorem S17_calls {t : Option Addr} {robot : Int} {w : World} {R : Value → World → Prop} (h : S17 t robot w R) : Ret Try.prog 17 [(.pointer t), (.int .i64 robot)] w R :=
  R_calls (C := ⟨cal, S17_nx⟩) cal_ok follows Try.func17 (c := Try.f17.body.getD .skip) (res := #[.tmp 4]) (n := 30) (by kernel_rfl) (by kernel_rfl) (by kernel_rfl) (by kernel_rfl) ((S17_eq t robot w R).mpr h)

def S18_ann (p : List Nat) : Option LA :=
  none

def S18_nx (t : Nat) : Option (TypeId × TypeId) := none

def S18 (t : Option Addr) (w : World) (R : Value → World → Prop) : Prop :=
  Calls Try.prog 22 ⟨[(.pointer t), (.int .i64 0)]⟩ w fun e w_ =>
    ∃ (t4_a : Option Addr) (t4_l : Nat) (t4_c : Nat),
    e = .returned (.slice t4_a t4_l t4_c) ∧
    R (.slice t4_a t4_l t4_c) w_

theorem S18_eq (t : Option Addr) (w : World) (R : Value → World → Prop) : Eng.R Try.prog ⟨cal, S18_nx⟩ 5 S18_ann [] (Try.f18.body.getD .skip) (bodyQ Try.prog #[.tmp 2] R) (argE [(.pointer t)]) w = S18 t w R := by kernel_rfl
/-- A call of '(*carfax/lock.Table).Free', by its condition. -/
theorem S18_calls {t : Option Addr} {w : World} {R : Value → World → Prop} (h : S18 t w R) : Ret Try.prog 18 [(.pointer t)] w R :=
  R_calls (C := ⟨cal, S18_nx⟩) cal_ok follows Try.func18 (c := Try.f18.body.getD .skip) (res := #[.tmp 2]) (n := 5) (by kernel_rfl) (by kernel_rfl) (by kernel_rfl) (by kernel_rfl) ((S18_eq t w R).mpr h)

def S19_ann (p : List Nat) : Option LA := match p with
  | [0, 1, 0, 1, 1] => some ⟨[0], [(3, .one .slice), (4, .one (.int .i64))]⟩
  | _ => none

def S19_nx (t : Nat) : Option (TypeId × TypeId) := none

def S19_k1 (t : Option Addr) (l_a : Option Addr) (l_l : Nat) (l_c : Nat) (z : Int) (w : World) (R : Value → World → Prop) (B1 : (Option Addr × Nat × Nat) × (Int) × Unit → World → Prop) : Prop :=
  Calls Try.prog 16 ⟨[(.pointer t), (.int .i64 z)]⟩ w fun e w_ =>
    ∃ (t14_0 : Int) (t14_1 : Bool),
    e = .returned (.tuple ⟨[(.int .i64 t14_0), (.bool t14_1)]⟩) ∧
    cond (!t14_1) (
      ∃ (t22_a : Option Addr) (t22_l : Nat) (t22_c : Nat) (w__1 : World),
      (Builtin.append_ #[31, 31] 31 ⟨[(.slice l_a l_l l_c), (.slice (some ⟨w_.heap.size, 0, none⟩) 1 1)]⟩).run Try.prog (w_.alloc (.cells ⟨[(.int .i64 z)]⟩ 3)) = .ok (.slice t22_a t22_l t22_c) w__1 ∧
      B1 ((t22_a, t22_l, t22_c), (IntKind.i64.wrap (z + 1)), ()) w__1
    ) (
      B1 ((l_a, l_l, l_c), (IntKind.i64.wrap (z + 1)), ()) w_
    )

def S19_L0 (t : Option Addr) (l_a : Option Addr) (l_l : Nat) (l_c : Nat) (z : Int) (w : World) (R : Value → World → Prop) (B1 : (Option Addr × Nat × Nat) × (Int) × Unit → World → Prop) : Prop :=
  cond (decide ((z : Int) < 26)) (
    S19_k1 t l_a l_l l_c z w R B1
  ) (
    R (.slice l_a l_l l_c) w
  )

def S19 (t : Option Addr) (w : World) (R : Value → World → Prop) : Prop :=
  ∃ (I : (Option Addr × Nat × Nat) × (Int) × Unit → World → Prop) (μ : (Option Addr × Nat × Nat) × (Int) × Unit → World → Nat),
  I ((none, 0, 0), 0, ()) w ∧
  ∀ (J : Env) (s : (Option Addr × Nat × Nat) × (Int) × Unit) (w' : World), I s w' →
    S19_L0 t s.1.1 s.1.2.1 s.1.2.2 s.2.1 w' R (fun s' w'' => I s' w'' ∧ μ s' w'' < μ s w')

theorem S19_eq (t : Option Addr) (w : World) (R : Value → World → Prop) : Eng.R Try.prog ⟨cal, S19_nx⟩ 24 S19_ann [] (Try.f19.body.getD .skip) (bodyQ Try.prog #[.tmp 2] R) (argE [(.pointer t)]) w = S19 t w R := by kernel_rfl
/-- A call of '(*carfax/carfaxref09.Table).Free', by its condition. -/
theorem S19_calls {t : Option Addr} {w : World} {R : Value → World → Prop} (h : S19 t w R) : Ret Try.prog 19 [(.pointer t)] w R :=
  R_calls (C := ⟨cal, S19_nx⟩) cal_ok follows Try.func19 (c := Try.f19.body.getD .skip) (res := #[.tmp 2]) (n := 24) (by kernel_rfl) (by kernel_rfl) (by kernel_rfl) (by kernel_rfl) ((S19_eq t w R).mpr h)

def S20_ann (p : List Nat) : Option LA :=
  none

def S20_nx (t : Nat) : Option (TypeId × TypeId) := none

def S20_k2 (t : Option Addr) (robot : Int) (zone : Int) (w : World) (R : Value → World → Prop) : Prop :=
  ∃ (t34 : Addr),
  t = some t34 ∧
  0 ≤ (zone : Int) ∧
  (zone : Int) < ((26 : Nat) : Int) ∧
  (∃ u, w.cell? (Addr.add t34 (Int.toNat zone * 1)) = some u) ∧
  w.frozen? (Addr.add t34 (Int.toNat zone * 1)) = false ∧
  R (.int .i64 0) (w.setCell (Addr.add t34 (Int.toNat zone * 1)) (.int .i64 (IntKind.i64.wrap (robot + 1))))

def S20_k1 (t : Option Addr) (robot : Int) (zone : Int) (t29 : Bool) (w : World) (R : Value → World → Prop) : Prop :=
  cond t29 (
    R (.int .i64 3) w
  ) (
    S20_k2 t robot zone w R
  )

def S20_k0 (t : Option Addr) (robot : Int) (zone : Int) (w : World) (R : Value → World → Prop) : Prop :=
  ∃ (t18 : Addr),
  t = some t18 ∧
  0 ≤ (zone : Int) ∧
  (zone : Int) < ((26 : Nat) : Int) ∧
  ∃ (t21 : Int),
  w.cell? (Addr.add t18 (Int.toNat zone * 1)) = some (.int .i64 t21) ∧
  cond (!decide ((t21 : Int) = 0)) (
    S20_k1 t robot zone (!decide ((t21 : Int) = (IntKind.i64.wrap (robot + 1)))) w R
  ) (
    S20_k1 t robot zone false w R
  )

def S20 (t : Option Addr) (robot : Int) (zone : Int) (w : World) (R : Value → World → Prop) : Prop :=
  Calls Try.prog 24 ⟨[(.pointer t), (.int .i64 robot), (.int .i64 zone)]⟩ w fun e w_ =>
    ∃ (t12 : Int),
    e = .returned (.int .i64 t12) ∧
    cond (!decide ((t12 : Int) = 0)) (
      R (.int .i64 t12) w_
    ) (
      S20_k0 t robot zone w_ R
    )

theorem S20_eq (t : Option Addr) (robot : Int) (zone : Int) (w : World) (R : Value → World → Prop) : Eng.R Try.prog ⟨cal, S20_nx⟩ 37 S20_ann [] (Try.f20.body.getD .skip) (bodyQ Try.prog #[.tmp 6] R) (argE [(.pointer t), (.int .i64 robot), (.int .i64 zone)]) w = S20 t robot zone w R := by kernel_rfl
/-- A call of '(*carfax/lock.Table).Hold', by its condition. -/
theorem S20_calls {t : Option Addr} {robot : Int} {zone : Int} {w : World} {R : Value → World → Prop} (h : S20 t robot zone w R) : Ret Try.prog 20 [(.pointer t), (.int .i64 robot), (.int .i64 zone)] w R :=
  R_calls (C := ⟨cal, S20_nx⟩) cal_ok follows Try.func20 (c := Try.f20.body.getD .skip) (res := #[.tmp 6]) (n := 37) (by kernel_rfl) (by kernel_rfl) (by kernel_rfl) (by kernel_rfl) ((S20_eq t robot zone w R).mpr h)

def S21_ann (p : List Nat) : Option LA :=
  none

def S21_nx (t : Nat) : Option (TypeId × TypeId) := none

def S21_k1 (t : Option Addr) (zone : Int) (w : World) (R : Value → World → Prop) : Prop :=
  ∃ (t26 : Addr),
  t = some t26 ∧
  0 ≤ (zone : Int) ∧
  (zone : Int) < ((26 : Nat) : Int) ∧
  (∃ u, w.cell? (Addr.add t26 (Int.toNat zone * 1)) = some u) ∧
  w.frozen? (Addr.add t26 (Int.toNat zone * 1)) = false ∧
  R (.int .i64 0) (w.setCell (Addr.add t26 (Int.toNat zone * 1)) (.int .i64 0))

def S21_k0 (t : Option Addr) (robot : Int) (zone : Int) (w : World) (R : Value → World → Prop) : Prop :=
  ∃ (t17 : Addr),
  t = some t17 ∧
  0 ≤ (zone : Int) ∧
  (zone : Int) < ((26 : Nat) : Int) ∧
  ∃ (t20 : Int),
  w.cell? (Addr.add t17 (Int.toNat zone * 1)) = some (.int .i64 t20) ∧
  cond (!decide ((t20 : Int) = (IntKind.i64.wrap (robot + 1)))) (
    R (.int .i64 2) w
  ) (
    S21_k1 t zone w R
  )

def S21 (t : Option Addr) (robot : Int) (zone : Int) (w : World) (R : Value → World → Prop) : Prop :=
  Calls Try.prog 24 ⟨[(.pointer t), (.int .i64 robot), (.int .i64 zone)]⟩ w fun e w_ =>
    ∃ (t11 : Int),
    e = .returned (.int .i64 t11) ∧
    cond (!decide ((t11 : Int) = 0)) (
      R (.int .i64 t11) w_
    ) (
      S21_k0 t robot zone w_ R
    )

theorem S21_eq (t : Option Addr) (robot : Int) (zone : Int) (w : World) (R : Value → World → Prop) : Eng.R Try.prog ⟨cal, S21_nx⟩ 29 S21_ann [] (Try.f21.body.getD .skip) (bodyQ Try.prog #[.tmp 6] R) (argE [(.pointer t), (.int .i64 robot), (.int .i64 zone)]) w = S21 t robot zone w R := by kernel_rfl
/-- A call of '(*carfax/lock.Table).Release', by its condition. -/
theorem S21_calls {t : Option Addr} {robot : Int} {zone : Int} {w : World} {R : Value → World → Prop} (h : S21 t robot zone w R) : Ret Try.prog 21 [(.pointer t), (.int .i64 robot), (.int .i64 zone)] w R :=
  R_calls (C := ⟨cal, S21_nx⟩) cal_ok follows Try.func21 (c := Try.f21.body.getD .skip) (res := #[.tmp 6]) (n := 29) (by kernel_rfl) (by kernel_rfl) (by kernel_rfl) (by kernel_rfl) ((S21_eq t robot zone w R).mpr h)

def S22_ann (p : List Nat) : Option LA := match p with
  | [0, 1, 0, 1, 1, 1] => some ⟨[0, 1], [(5, .one .slice), (9, .one (.int .i64))]⟩
  | _ => none

def S22_nx (t : Nat) : Option (TypeId × TypeId) := none

def S22_k2 (t : Option Addr) (owner : Int) (out_a : Option Addr) (out_l : Nat) (out_c : Nat) (t9 : Int) (w : World) (R : Value → World → Prop) (B1 : (Option Addr × Nat × Nat) × (Int) × Unit → World → Prop) : Prop :=
  ∃ (t14 : Addr),
  t = some t14 ∧
  0 ≤ (t9 : Int) ∧
  (t9 : Int) < ((26 : Nat) : Int) ∧
  ∃ (t17 : Int),
  w.cell? (Addr.add t14 (Int.toNat t9 * 1)) = some (.int .i64 t17) ∧
  cond (decide ((t17 : Int) = owner)) (
    ∃ (t23_a : Option Addr) (t23_l : Nat) (t23_c : Nat) (w_ : World),
    (Builtin.append_ #[31, 31] 31 ⟨[(.slice out_a out_l out_c), (.slice (some ⟨w.heap.size, 0, none⟩) 1 1)]⟩).run Try.prog (w.alloc (.cells ⟨[(.int .i64 t9)]⟩ 3)) = .ok (.slice t23_a t23_l t23_c) w_ ∧
    B1 ((t23_a, t23_l, t23_c), (IntKind.i64.wrap (t9 + 1)), ()) w_
  ) (
    B1 ((out_a, out_l, out_c), (IntKind.i64.wrap (t9 + 1)), ()) w
  )

def S22_L1 (t : Option Addr) (owner : Int) (out_a : Option Addr) (out_l : Nat) (out_c : Nat) (t9 : Int) (w : World) (R : Value → World → Prop) (B1 : (Option Addr × Nat × Nat) × (Int) × Unit → World → Prop) : Prop :=
  cond (decide ((t9 : Int) < 26)) (
    S22_k2 t owner out_a out_l out_c t9 w R B1
  ) (
    R (.slice out_a out_l out_c) w
  )

def S22_k0 (t : Option Addr) (owner : Int) (w : World) (R : Value → World → Prop) : Prop :=
  ∃ (I : (Option Addr × Nat × Nat) × (Int) × Unit → World → Prop) (μ : (Option Addr × Nat × Nat) × (Int) × Unit → World → Nat),
  I ((none, 0, 0), 0, ()) w ∧
  ∀ (J : Env) (s : (Option Addr × Nat × Nat) × (Int) × Unit) (w' : World), I s w' →
    S22_L1 t owner s.1.1 s.1.2.1 s.1.2.2 s.2.1 w' R (fun s' w'' => I s' w'' ∧ μ s' w'' < μ s w')

def S22 (t : Option Addr) (owner : Int) (w : World) (R : Value → World → Prop) : Prop :=
  cond (Option.isNone t) (
    R (.slice none 0 0) w
  ) (
    S22_k0 t owner w R
  )

theorem S22_eq (t : Option Addr) (owner : Int) (w : World) (R : Value → World → Prop) : Eng.R Try.prog ⟨cal, S22_nx⟩ 26 S22_ann [] (Try.f22.body.getD .skip) (bodyQ Try.prog #[.tmp 4] R) (argE [(.pointer t), (.int .i64 owner)]) w = S22 t owner w R := by kernel_rfl
/-- A call of '(*carfax/lock.Table).some', by its condition. -/
theorem S22_calls {t : Option Addr} {owner : Int} {w : World} {R : Value → World → Prop} (h : S22 t owner w R) : Ret Try.prog 22 [(.pointer t), (.int .i64 owner)] w R :=
  R_calls (C := ⟨cal, S22_nx⟩) cal_ok follows Try.func22 (c := Try.f22.body.getD .skip) (res := #[.tmp 4]) (n := 26) (by kernel_rfl) (by kernel_rfl) (by kernel_rfl) (by kernel_rfl) ((S22_eq t owner w R).mpr h)

def S23_ann (p : List Nat) : Option LA :=
  none

def S23_nx (t : Nat) : Option (TypeId × TypeId) := none

def S23 (robot : Int) (zone : Int) (w : World) (R : Value → World → Prop) : Prop :=
  cond (decide ((0 : Int) ≤ robot)) (
    cond (decide ((robot : Int) < 8)) (
      cond (decide ((0 : Int) ≤ zone)) (
        R (.bool (decide ((zone : Int) < 26))) w
      ) (
        R (.bool false) w
      )
    ) (
      R (.bool false) w
    )
  ) (
    R (.bool false) w
  )

theorem S23_eq (robot : Int) (zone : Int) (w : World) (R : Value → World → Prop) : Eng.R Try.prog ⟨cal, S23_nx⟩ 19 S23_ann [] (Try.f23.body.getD .skip) (bodyQ Try.prog #[.tmp 4] R) (argE [(.int .i64 robot), (.int .i64 zone)]) w = S23 robot zone w R := by kernel_rfl
/-- A call of 'carfax/carfaxref09.right', by its condition. -/
theorem S23_calls {robot : Int} {zone : Int} {w : World} {R : Value → World → Prop} (h : S23 robot zone w R) : Ret Try.prog 23 [(.int .i64 robot), (.int .i64 zone)] w R :=
  R_calls (C := ⟨cal, S23_nx⟩) cal_ok follows Try.func23 (c := Try.f23.body.getD .skip) (res := #[.tmp 4]) (n := 19) (by kernel_rfl) (by kernel_rfl) (by kernel_rfl) (by kernel_rfl) ((S23_eq robot zone w R).mpr h)

def S24_ann (p : List Nat) : Option LA :=
  none

def S24_nx (t : Nat) : Option (TypeId × TypeId) := none

def S24_k0 (t10 : Bool) (w : World) (R : Value → World → Prop) : Prop :=
  cond t10 (
    R (.int .i64 1) w
  ) (
    R (.int .i64 0) w
  )

def S24 (t : Option Addr) (robot : Int) (zone : Int) (w : World) (R : Value → World → Prop) : Prop :=
  cond (Option.isNone t) (
    R (.int .i64 2) w
  ) (
    cond (decide ((robot : Int) < 0)) (
      S24_k0 true w R
    ) (
      cond (decide ((8 : Int) ≤ robot)) (
        S24_k0 true w R
      ) (
        cond (decide ((zone : Int) < 0)) (
          S24_k0 true w R
        ) (
          S24_k0 (decide ((26 : Int) ≤ zone)) w R
        )
      )
    )
  )

theorem S24_eq (t : Option Addr) (robot : Int) (zone : Int) (w : World) (R : Value → World → Prop) : Eng.R Try.prog ⟨cal, S24_nx⟩ 25 S24_ann [] (Try.f24.body.getD .skip) (bodyQ Try.prog #[.tmp 6] R) (argE [(.pointer t), (.int .i64 robot), (.int .i64 zone)]) w = S24 t robot zone w R := by kernel_rfl
/-- A call of '(*carfax/lock.Table).may', by its condition. -/
theorem S24_calls {t : Option Addr} {robot : Int} {zone : Int} {w : World} {R : Value → World → Prop} (h : S24 t robot zone w R) : Ret Try.prog 24 [(.pointer t), (.int .i64 robot), (.int .i64 zone)] w R :=
  R_calls (C := ⟨cal, S24_nx⟩) cal_ok follows Try.func24 (c := Try.f24.body.getD .skip) (res := #[.tmp 6]) (n := 25) (by kernel_rfl) (by kernel_rfl) (by kernel_rfl) (by kernel_rfl) ((S24_eq t robot zone w R).mpr h)

end Go.Proofs
