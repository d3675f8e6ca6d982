import Derived.Test.YtohpoigkpdodmaaProg
import Derived.Test.YtohpoigkpdodmaaEng8
set_option linter.unusedVariables false
set_option maxRecDepth 100000
namespace Go.Proofs
open Go Go.Eng
def cal (f : FuncId) : Bool := Nat.ble 3 f && Nat.blt f 34
theorem cal_all : (List.range 34).all (fun f => !cal f || callable Try.prog f) = true := by kernel_rfl
theorem cal_ok (f : FuncId) (h : cal f = true) : callable Try.prog f = true := by
  have hb := h
  simp only [cal, Bool.and_eq_true, Nat.blt_eq] at hb
  have := List.all_eq_true.1 cal_all f (List.mem_range.2 hb.2)
  rw [h] at this
  simpa using this
theorem follows : Try.prog.follows .mixedOrders = true := by kernel_rfl

def S3_ann (p : List Nat) : Option LA := match p with
  | [0, 1, 0, 1, 1, 1, 1, 1, 1] => some ⟨[0, 1, 5, 6, 21], [(7, .one (.int .i64)), (22, .one (.int .i64))]⟩
  | _ => none

def S3_nx (t : Nat) : Option (TypeId × TypeId) := none

def S3_k4 (n_ : Int) (t1 : Int) (t5 : Bool) (t6 : Option Addr) (t7 : Int) (t9 : Int) (t21 : Int) (t22 : Int) (w : World) (R : Value → World → Prop) (B1 : (Int) × (Int) × Unit → World → Prop) : Prop :=
  cond (decide ((t9 : Int) = 0)) (
    B1 ((IntKind.i64.wrap (t7 + 1)), (IntKind.i64.wrap (t22 + 1)), ()) w
  ) (
    B1 (t7, (IntKind.i64.wrap (t22 + 1)), ()) w
  )

def S3_k3 (n_ : Int) (t1 : Int) (t5 : Bool) (t6 : Option Addr) (t7 : Int) (t9 : Int) (t21 : Int) (t22 : Int) (t44 : Bool) (w : World) (R : Value → World → Prop) (B1 : (Int) × (Int) × Unit → World → Prop) : Prop :=
  cond t44 (
    R (.bool false) w
  ) (
    S3_k4 n_ t1 t5 t6 t7 t9 t21 t22 w R B1
  )

def S3_k2 (n_ : Int) (t1 : Int) (t5 : Bool) (t6 : Option Addr) (t7 : Int) (t21 : Int) (t22 : Int) (w : World) (R : Value → World → Prop) (B1 : (Int) × (Int) × Unit → World → Prop) : Prop :=
  Calls Try.prog 11 ⟨[(.pointer t6), (.slice (some ⟨w.heap.size, 0, none⟩) 1 1)]⟩ (w.alloc (.cells ⟨[(.int .u8 (IntKind.u8.wrap t22))]⟩ 5)) fun e w_ =>
    ∃ (t29 : Int),
    e = .returned (.int .i64 t29) ∧
    cond (!((decide ((t29 : Int) = 0)) == (decide ((t22 : Int) < (IntKind.i64.wrap n_))))) (
      S3_k3 n_ t1 t5 t6 t7 t29 t21 t22 true w_ R B1
    ) (
      cond (!decide ((t29 : Int) = 0)) (
        S3_k3 n_ t1 t5 t6 t7 t29 t21 t22 (!decide ((t29 : Int) = 5)) w_ R B1
      ) (
        S3_k3 n_ t1 t5 t6 t7 t29 t21 t22 false w_ R B1
      )
    )

def S3_k6 (t5 : Bool) (t6 : Option Addr) (t7 : Int) (w : World) (R : Value → World → Prop) : Prop :=
  Calls Try.prog 13 ⟨[(.pointer t6), (.int .i64 1073741824)]⟩ w fun e w_ =>
    e = .returned (.tuple ⟨[]⟩) ∧
    Calls Try.prog 14 ⟨[(.pointer t6)]⟩ w_ fun e w__1 =>
      ∃ (t62_0_a : Option Addr) (t62_0_l : Nat) (t62_0_c : Nat) (t62_1 : Int),
      e = .returned (.tuple ⟨[(.slice t62_0_a t62_0_l t62_0_c), (.int .i64 t62_1)]⟩) ∧
      cond t5 (
        cond (decide ((t62_1 : Int) = 0)) (
          cond (decide ((((t62_0_l : Nat) : Int) : Int) = t7)) (
            Calls Try.prog 12 ⟨[(.pointer t6)]⟩ w__1 fun e w__2 =>
              ∃ (t78 : Bool),
              e = .returned (.bool t78) ∧
              cond (!t78) (
                Calls Try.prog 15 ⟨[(.pointer t6)]⟩ w__2 fun e w__3 =>
                  ∃ (t83 : Int),
                  e = .returned (.int .i64 t83) ∧
                  R (.bool (decide ((t83 : Int) = t7))) w__3
              ) (
                R (.bool false) w__2
              )
          ) (
            R (.bool false) w__1
          )
        ) (
          R (.bool false) w__1
        )
      ) (
        R (.bool false) w__1
      )

def S3_k5 (n_ : Int) (t1 : Int) (t5 : Bool) (t6 : Option Addr) (t7 : Int) (w : World) (R : Value → World → Prop) : Prop :=
  Calls Try.prog 12 ⟨[(.pointer t6)]⟩ w fun e w_ =>
    ∃ (t51 : Bool),
    e = .returned (.bool t51) ∧
    cond (!(t51 == (decide (((IntKind.i64.wrap n_) : Int) < (IntKind.i64.wrap t1))))) (
      R (.bool false) w_
    ) (
      S3_k6 t5 t6 t7 w_ R
    )

def S3_L1 (n_ : Int) (t1 : Int) (t5 : Bool) (t6 : Option Addr) (t7 : Int) (t21 : Int) (t22 : Int) (w : World) (R : Value → World → Prop) (B1 : (Int) × (Int) × Unit → World → Prop) : Prop :=
  cond (decide ((t22 : Int) < t21)) (
    S3_k2 n_ t1 t5 t6 t7 t21 t22 w R B1
  ) (
    S3_k5 n_ t1 t5 t6 t7 w R
  )

def S3_k0 (n_ : Int) (t1 : Int) (t5 : Bool) (t6 : Option Addr) (w : World) (R : Value → World → Prop) : Prop :=
  Calls Try.prog 10 ⟨[(.pointer t6), (.int .i64 (IntKind.i64.wrap n_))]⟩ w fun e w_ =>
    e = .returned (.tuple ⟨[]⟩) ∧
    ∃ (I : (Int) × (Int) × Unit → World → Prop) (μ : (Int) × (Int) × Unit → World → Nat),
    I (0, 0, ()) w_ ∧
    ∀ (J : Env) (s : (Int) × (Int) × Unit) (w' : World), I s w' →
      S3_L1 n_ t1 t5 t6 s.1 (IntKind.i64.wrap t1) s.2.1 w' R (fun s' w'' => I s' w'' ∧ μ s' w'' < μ s w')

def S3 (n_ : Int) (x1 : Int) (w : World) (R : Value → World → Prop) : Prop :=
  Calls Try.prog 8 ⟨[]⟩ w fun e w_ =>
    ∃ (t12 : Bool),
    e = .returned (.bool t12) ∧
    Calls Try.prog 9 ⟨[]⟩ w_ fun e w__1 =>
      ∃ (t13 : Option Addr),
      e = .returned (.pointer t13) ∧
      cond (Option.isNone t13) (
        R (.bool false) w__1
      ) (
        S3_k0 n_ x1 t12 t13 w__1 R
      )

theorem S3_eq (n_ : Int) (x1 : Int) (w : World) (R : Value → World → Prop) : Eng.R Try.prog ⟨cal, S3_nx⟩ 87 S3_ann [] (Try.f3.body.getD .skip) (bodyQ Try.prog #[.tmp 4] R) (argE [(.int .u8 n_), (.int .u8 x1)]) w = S3 n_ x1 w R := by kernel_rfl
/-- A call of 'carfax/carfaxlaw15.DiskCuts', by its condition. -/
theorem S3_calls {n_ : Int} {x1 : Int} {w : World} {R : Value → World → Prop} (hS : S3 n_ x1 w R) : Ret Try.prog 3 [(.int .u8 n_), (.int .u8 x1)] w R :=
  R_calls (C := ⟨cal, S3_nx⟩) cal_ok follows Try.func3 (c := Try.f3.body.getD .skip) (res := #[.tmp 4]) (n := 87) (by kernel_rfl) (by kernel_rfl) (by kernel_rfl) (by kernel_rfl) ((S3_eq n_ x1 w R).mpr hS)

def S4_ann (p : List Nat) : Option LA := match p with
  | [0, 1, 0, 1, 1, 1, 1, 1] => some ⟨[3, 4, 18, 19], [(5, .one .string), (20, .one (.int .i64))]⟩
  | _ => none

def S4_nx (t : Nat) : Option (TypeId × TypeId) := none

def S4_k12 (t3 : Bool) (t4 : Option Addr) (t5 : ByteArray) (t11_a : Option Addr) (t11_l : Nat) (t11_c : Nat) (t18_a : Option Addr) (t18_l : Nat) (t18_c : Nat) (t19 : Int) (t20 : Int) (w : World) (R : Value → World → Prop) (B1 : (ByteArray) × (Int) × Unit → World → Prop) : Prop :=
  ∃ (t103 : ByteArray) (w_ : World),
  (convert 28 9 (.slice t11_a t11_l t11_c)).run Try.prog w = .ok (.string t103) w_ ∧
  cond (!decide ((t103 : ByteArray) = t5)) (
    R (.bool false) w_
  ) (
    B1 (t5, (IntKind.i64.wrap (t20 + 1)), ()) w_
  )

def S4_k11 (t3 : Bool) (t4 : Option Addr) (t5 : ByteArray) (t8 : Int) (t11_a : Option Addr) (t11_l : Nat) (t11_c : Nat) (t18_a : Option Addr) (t18_l : Nat) (t18_c : Nat) (t19 : Int) (t20 : Int) (w : World) (R : Value → World → Prop) (B1 : (ByteArray) × (Int) × Unit → World → Prop) : Prop :=
  cond (decide ((t8 : Int) = 4)) (
    ∃ (t101 : ByteArray) (w_ : World),
    (convert 28 9 (.slice t11_a t11_l t11_c)).run Try.prog w = .ok (.string t101) w_ ∧
    S4_k12 t3 t4 t101 t11_a t11_l t11_c t18_a t18_l t18_c t19 t20 w_ R B1
  ) (
    S4_k12 t3 t4 t5 t11_a t11_l t11_c t18_a t18_l t18_c t19 t20 w R B1
  )

def S4_k10 (t3 : Bool) (t4 : Option Addr) (t5 : ByteArray) (t8 : Int) (t11_a : Option Addr) (t11_l : Nat) (t11_c : Nat) (t18_a : Option Addr) (t18_l : Nat) (t18_c : Nat) (t19 : Int) (t20 : Int) (t97 : Bool) (w : World) (R : Value → World → Prop) (B1 : (ByteArray) × (Int) × Unit → World → Prop) : Prop :=
  cond t97 (
    R (.bool false) w
  ) (
    S4_k11 t3 t4 t5 t8 t11_a t11_l t11_c t18_a t18_l t18_c t19 t20 w R B1
  )

def S4_k9 (t3 : Bool) (t4 : Option Addr) (t5 : ByteArray) (t8 : Int) (t18_a : Option Addr) (t18_l : Nat) (t18_c : Nat) (t19 : Int) (t20 : Int) (w : World) (R : Value → World → Prop) (B1 : (ByteArray) × (Int) × Unit → World → Prop) : Prop :=
  Calls Try.prog 14 ⟨[(.pointer t4)]⟩ w fun e w_ =>
    ∃ (t79_0_a : Option Addr) (t79_0_l : Nat) (t79_0_c : Nat) (t79_1 : Int),
    e = .returned (.tuple ⟨[(.slice t79_0_a t79_0_l t79_0_c), (.int .i64 t79_1)]⟩) ∧
    cond (!decide ((t79_1 : Int) = 0)) (
      S4_k10 t3 t4 t5 t8 t79_0_a t79_0_l t79_0_c t18_a t18_l t18_c t19 t20 true w_ R B1
    ) (
      ∃ (t87 : ByteArray) (w__1 : World),
      (convert 28 9 (.slice t79_0_a t79_0_l t79_0_c)).run Try.prog w_ = .ok (.string t87) w__1 ∧
      Calls Try.prog 18 ⟨[(.string t5), (.string t87)]⟩ w__1 fun e w__2 =>
        ∃ (t88 : Bool),
        e = .returned (.bool t88) ∧
        cond (!t88) (
          S4_k10 t3 t4 t5 t8 t79_0_a t79_0_l t79_0_c t18_a t18_l t18_c t19 t20 true w__2 R B1
        ) (
          Calls Try.prog 15 ⟨[(.pointer t4)]⟩ w__2 fun e w__3 =>
            ∃ (t95 : Int),
            e = .returned (.int .i64 t95) ∧
            S4_k10 t3 t4 t5 t8 t79_0_a t79_0_l t79_0_c t18_a t18_l t18_c t19 t20 (decide ((((t79_0_l : Nat) : Int) : Int) < t95)) w__3 R B1
        )
    )

def S4_k8 (t3 : Bool) (t4 : Option Addr) (t5 : ByteArray) (t8 : Int) (t18_a : Option Addr) (t18_l : Nat) (t18_c : Nat) (t19 : Int) (t20 : Int) (w : World) (R : Value → World → Prop) (B1 : (ByteArray) × (Int) × Unit → World → Prop) : Prop :=
  Calls Try.prog 12 ⟨[(.pointer t4)]⟩ w fun e w_ =>
    ∃ (t76 : Bool),
    e = .returned (.bool t76) ∧
    cond t76 (
      B1 (t5, (IntKind.i64.wrap (t20 + 1)), ()) w_
    ) (
      S4_k9 t3 t4 t5 t8 t18_a t18_l t18_c t19 t20 w_ R B1
    )

def S4_k7 (t3 : Bool) (t4 : Option Addr) (t5 : ByteArray) (t8 : Int) (t18_a : Option Addr) (t18_l : Nat) (t18_c : Nat) (t19 : Int) (t20 : Int) (t74 : Bool) (w : World) (R : Value → World → Prop) (B1 : (ByteArray) × (Int) × Unit → World → Prop) : Prop :=
  cond t74 (
    R (.bool false) w
  ) (
    S4_k8 t3 t4 t5 t8 t18_a t18_l t18_c t19 t20 w R B1
  )

def S4_k6 (t3 : Bool) (t4 : Option Addr) (t5 : ByteArray) (t8 : Int) (t9 : Int) (t10 : Int) (t18_a : Option Addr) (t18_l : Nat) (t18_c : Nat) (t19 : Int) (t20 : Int) (w : World) (R : Value → World → Prop) (B1 : (ByteArray) × (Int) × Unit → World → Prop) : Prop :=
  Calls Try.prog 15 ⟨[(.pointer t4)]⟩ w fun e w_ =>
    ∃ (t50 : Int),
    e = .returned (.int .i64 t50) ∧
    cond (decide ((t50 : Int) < t9)) (
      S4_k7 t3 t4 t5 t8 t18_a t18_l t18_c t19 t20 true w_ R B1
    ) (
      Calls Try.prog 15 ⟨[(.pointer t4)]⟩ w_ fun e w__1 =>
        ∃ (t55 : Int),
        e = .returned (.int .i64 t55) ∧
        cond (decide ((((ByteArray.size t5 : Nat) : Int) : Int) < t55)) (
          S4_k7 t3 t4 t5 t8 t18_a t18_l t18_c t19 t20 true w__1 R B1
        ) (
          cond (decide ((t8 : Int) = 1)) (
            cond (decide ((t10 : Int) = 0)) (
              Calls Try.prog 15 ⟨[(.pointer t4)]⟩ w__1 fun e w__2 =>
                ∃ (t69 : Int),
                e = .returned (.int .i64 t69) ∧
                S4_k7 t3 t4 t5 t8 t18_a t18_l t18_c t19 t20 (!decide ((t69 : Int) = ((ByteArray.size t5 : Nat) : Int))) w__2 R B1
            ) (
              S4_k7 t3 t4 t5 t8 t18_a t18_l t18_c t19 t20 false w__1 R B1
            )
          ) (
            S4_k7 t3 t4 t5 t8 t18_a t18_l t18_c t19 t20 false w__1 R B1
          )
        )
    )

def S4_k5 (t3 : Bool) (t4 : Option Addr) (t5 : ByteArray) (t7 : Addr) (t8 : Int) (t9 : Int) (t10 : Int) (t18_a : Option Addr) (t18_l : Nat) (t18_c : Nat) (t19 : Int) (t20 : Int) (t43 : Bool) (w : World) (R : Value → World → Prop) (B1 : (ByteArray) × (Int) × Unit → World → Prop) : Prop :=
  cond t43 (
    ∃ (t46_a : Option Addr) (t46_l : Nat) (t46_c : Nat),
    w.cell? (t7.add 1) = some (.slice t46_a t46_l t46_c) ∧
    ∃ (t47 : ByteArray) (w_ : World),
    (convert 28 9 (.slice t46_a t46_l t46_c)).run Try.prog w = .ok (.string t47) w_ ∧
    ByteArray.size t5 + ByteArray.size t47 ≤ 9223372036854775807 ∧
    S4_k6 t3 t4 (t5 ++ t47) t8 t9 t10 t18_a t18_l t18_c t19 t20 w_ R B1
  ) (
    S4_k6 t3 t4 t5 t8 t9 t10 t18_a t18_l t18_c t19 t20 w R B1
  )

def S4_k4 (t3 : Bool) (t4 : Option Addr) (t5 : ByteArray) (t7 : Addr) (t8 : Int) (t18_a : Option Addr) (t18_l : Nat) (t18_c : Nat) (t19 : Int) (t20 : Int) (w : World) (R : Value → World → Prop) (B1 : (ByteArray) × (Int) × Unit → World → Prop) : Prop :=
  Calls Try.prog 15 ⟨[(.pointer t4)]⟩ w fun e w_ =>
    ∃ (t34 : Int),
    e = .returned (.int .i64 t34) ∧
    ∃ (t36_0 : Int),
    w_.cell? t7 = some (.int .u8 t36_0) ∧
    ∃ (t36_1_a : Option Addr) (t36_1_l : Nat) (t36_1_c : Nat),
    w_.cell? (t7.add 1) = some (.slice t36_1_a t36_1_l t36_1_c) ∧
    ∃ (t36_2 : Int),
    w_.cell? (t7.add 2) = some (.int .i64 t36_2) ∧
    Calls Try.prog 17 ⟨[(.pointer t4), (.agg ⟨[(.int .u8 t36_0), (.slice t36_1_a t36_1_l t36_1_c), (.int .i64 t36_2)]⟩)]⟩ w_ fun e w__1 =>
      ∃ (t37 : Int),
      e = .returned (.int .i64 t37) ∧
      cond (decide ((t8 : Int) = 0)) (
        S4_k5 t3 t4 t5 t7 t8 t34 t37 t18_a t18_l t18_c t19 t20 (decide ((t37 : Int) = 0)) w__1 R B1
      ) (
        S4_k5 t3 t4 t5 t7 t8 t34 t37 t18_a t18_l t18_c t19 t20 false w__1 R B1
      )

def S4_k3 (t3 : Bool) (t4 : Option Addr) (t5 : ByteArray) (t7 : Addr) (t8 : Int) (t18_a : Option Addr) (t18_l : Nat) (t18_c : Nat) (t19 : Int) (t20 : Int) (t32 : Bool) (w : World) (R : Value → World → Prop) (B1 : (ByteArray) × (Int) × Unit → World → Prop) : Prop :=
  cond t32 (
    B1 (t5, (IntKind.i64.wrap (t20 + 1)), ()) w
  ) (
    S4_k4 t3 t4 t5 t7 t8 t18_a t18_l t18_c t19 t20 w R B1
  )

def S4_k2 (t3 : Bool) (t4 : Option Addr) (t5 : ByteArray) (t18_a : Option Addr) (t18_l : Nat) (t18_c : Nat) (t19 : Int) (t20 : Int) (w : World) (R : Value → World → Prop) (B1 : (ByteArray) × (Int) × Unit → World → Prop) : Prop :=
  ∃ (t22 : Addr),
  t18_a = some t22 ∧
  0 ≤ (t20 : Int) ∧
  (t20 : Int) < ((t18_l : Nat) : Int) ∧
  ∃ (t23_0 : Int),
  w.cell? (t22.add (Int.toNat t20 * 3)) = some (.int .u8 t23_0) ∧
  ∃ (t23_1_a : Option Addr) (t23_1_l : Nat) (t23_1_c : Nat),
  w.cell? ((t22.add (Int.toNat t20 * 3)).add 1) = some (.slice t23_1_a t23_1_l t23_1_c) ∧
  ∃ (t23_2 : Int),
  w.cell? ((t22.add (Int.toNat t20 * 3)).add 2) = some (.int .i64 t23_2) ∧
  (∃ u, (w.alloc (.cells ⟨[(.int .u8 0), (.slice none 0 0), (.int .i64 0)]⟩ 36)).cell? ⟨w.heap.size, 0, none⟩ = some u) ∧
  (w.alloc (.cells ⟨[(.int .u8 0), (.slice none 0 0), (.int .i64 0)]⟩ 36)).frozen? ⟨w.heap.size, 0, none⟩ = false ∧
  (∃ u, ((w.alloc (.cells ⟨[(.int .u8 0), (.slice none 0 0), (.int .i64 0)]⟩ 36)).setCell ⟨w.heap.size, 0, none⟩ (.int .u8 t23_0)).cell? ⟨w.heap.size, 1, none⟩ = some u) ∧
  ((w.alloc (.cells ⟨[(.int .u8 0), (.slice none 0 0), (.int .i64 0)]⟩ 36)).setCell ⟨w.heap.size, 0, none⟩ (.int .u8 t23_0)).frozen? ⟨w.heap.size, 1, none⟩ = false ∧
  (∃ u, (((w.alloc (.cells ⟨[(.int .u8 0), (.slice none 0 0), (.int .i64 0)]⟩ 36)).setCell ⟨w.heap.size, 0, none⟩ (.int .u8 t23_0)).setCell ⟨w.heap.size, 1, none⟩ (.slice t23_1_a t23_1_l t23_1_c)).cell? ⟨w.heap.size, 2, none⟩ = some u) ∧
  (((w.alloc (.cells ⟨[(.int .u8 0), (.slice none 0 0), (.int .i64 0)]⟩ 36)).setCell ⟨w.heap.size, 0, none⟩ (.int .u8 t23_0)).setCell ⟨w.heap.size, 1, none⟩ (.slice t23_1_a t23_1_l t23_1_c)).frozen? ⟨w.heap.size, 2, none⟩ = false ∧
  ∃ (t25 : Int),
  ((((w.alloc (.cells ⟨[(.int .u8 0), (.slice none 0 0), (.int .i64 0)]⟩ 36)).setCell ⟨w.heap.size, 0, none⟩ (.int .u8 t23_0)).setCell ⟨w.heap.size, 1, none⟩ (.slice t23_1_a t23_1_l t23_1_c)).setCell ⟨w.heap.size, 2, none⟩ (.int .i64 t23_2)).cell? ⟨w.heap.size, 0, none⟩ = some (.int .u8 t25) ∧
  (7 : Int) ≠ 0 ∧
  cond (decide (((Int.tmod t25 7) : Int) = 2)) (
    S4_k3 t3 t4 t5 ⟨w.heap.size, 0, none⟩ (Int.tmod t25 7) t18_a t18_l t18_c t19 t20 true ((((w.alloc (.cells ⟨[(.int .u8 0), (.slice none 0 0), (.int .i64 0)]⟩ 36)).setCell ⟨w.heap.size, 0, none⟩ (.int .u8 t23_0)).setCell ⟨w.heap.size, 1, none⟩ (.slice t23_1_a t23_1_l t23_1_c)).setCell ⟨w.heap.size, 2, none⟩ (.int .i64 t23_2)) R B1
  ) (
    S4_k3 t3 t4 t5 ⟨w.heap.size, 0, none⟩ (Int.tmod t25 7) t18_a t18_l t18_c t19 t20 (decide ((4 : Int) < (Int.tmod t25 7))) ((((w.alloc (.cells ⟨[(.int .u8 0), (.slice none 0 0), (.int .i64 0)]⟩ 36)).setCell ⟨w.heap.size, 0, none⟩ (.int .u8 t23_0)).setCell ⟨w.heap.size, 1, none⟩ (.slice t23_1_a t23_1_l t23_1_c)).setCell ⟨w.heap.size, 2, none⟩ (.int .i64 t23_2)) R B1
  )

def S4_L1 (t3 : Bool) (t4 : Option Addr) (t5 : ByteArray) (t18_a : Option Addr) (t18_l : Nat) (t18_c : Nat) (t19 : Int) (t20 : Int) (w : World) (R : Value → World → Prop) (B1 : (ByteArray) × (Int) × Unit → World → Prop) : Prop :=
  cond (decide ((t20 : Int) < t19)) (
    S4_k2 t3 t4 t5 t18_a t18_l t18_c t19 t20 w R B1
  ) (
    R (.bool t3) w
  )

def S4_k0 (l_a : Option Addr) (l_l : Nat) (l_c : Nat) (t3 : Bool) (t4 : Option Addr) (w : World) (R : Value → World → Prop) : Prop :=
  Calls Try.prog 16 ⟨[(.slice l_a l_l l_c)]⟩ w fun e w_ =>
    ∃ (t18_a : Option Addr) (t18_l : Nat) (t18_c : Nat),
    e = .returned (.slice t18_a t18_l t18_c) ∧
    ∃ (I : (ByteArray) × (Int) × Unit → World → Prop) (μ : (ByteArray) × (Int) × Unit → World → Nat),
    I (⟨#[]⟩, 0, ()) w_ ∧
    ∀ (J : Env) (s : (ByteArray) × (Int) × Unit) (w' : World), I s w' →
      S4_L1 t3 t4 s.1 t18_a t18_l t18_c ((t18_l : Nat) : Int) s.2.1 w' R (fun s' w'' => I s' w'' ∧ μ s' w'' < μ s w')

def S4 (l_a : Option Addr) (l_l : Nat) (l_c : Nat) (w : World) (R : Value → World → Prop) : Prop :=
  Calls Try.prog 8 ⟨[]⟩ w fun e w_ =>
    ∃ (t13 : Bool),
    e = .returned (.bool t13) ∧
    Calls Try.prog 9 ⟨[]⟩ w_ fun e w__1 =>
      ∃ (t14 : Option Addr),
      e = .returned (.pointer t14) ∧
      cond (Option.isNone t14) (
        R (.bool false) w__1
      ) (
        S4_k0 l_a l_l l_c t13 t14 w__1 R
      )

theorem S4_eq (l_a : Option Addr) (l_l : Nat) (l_c : Nat) (w : World) (R : Value → World → Prop) : Eng.R Try.prog ⟨cal, S4_nx⟩ 108 S4_ann [] (Try.f4.body.getD .skip) (bodyQ Try.prog #[.tmp 2] R) (argE [(.slice l_a l_l l_c)]) w = S4 l_a l_l l_c w R := by kernel_rfl
/-- A call of 'carfax/carfaxlaw15.DiskBegins', by its condition. -/
theorem S4_calls {l_a : Option Addr} {l_l : Nat} {l_c : Nat} {w : World} {R : Value → World → Prop} (hS : S4 l_a l_l l_c w R) : Ret Try.prog 4 [(.slice l_a l_l l_c)] w R :=
  R_calls (C := ⟨cal, S4_nx⟩) cal_ok follows Try.func4 (c := Try.f4.body.getD .skip) (res := #[.tmp 2]) (n := 108) (by kernel_rfl) (by kernel_rfl) (by kernel_rfl) (by kernel_rfl) ((S4_eq l_a l_l l_c w R).mpr hS)

def S5_ann (p : List Nat) : Option LA := match p with
  | [0, 1, 0, 1, 1, 1, 1] => some ⟨[3, 5, 18, 19], [(4, .one .pointer), (20, .one (.int .i64))]⟩
  | [0, 1, 1, 1, 1, 1, 1, 1, 0, 0, 1, 1, 0, 0, 1, 0, 1, 1, 1, 1] => some ⟨[3, 4, 5, 9, 18, 19, 20, 89], [(90, .one (.int .i64))]⟩
  | _ => none

def S5_nx (t : Nat) : Option (TypeId × TypeId) := none

def S5_k8 (t3 : Bool) (t4 : Option Addr) (t5 : Option Addr) (t9_a : Option Addr) (t9_l : Nat) (t9_c : Nat) (t18_a : Option Addr) (t18_l : Nat) (t18_c : Nat) (t19 : Int) (t20 : Int) (t89 : Int) (t90 : Int) (w : World) (R : Value → World → Prop) (B1 : (Option Addr) × (Int) × Unit → World → Prop) (B2 : (Int) × Unit → World → Prop) : Prop :=
  ∃ (t95 : Addr),
  t9_a = some t95 ∧
  0 ≤ (t90 : Int) ∧
  (t90 : Int) < ((t9_l : Nat) : Int) ∧
  ∃ (t96 : Int),
  w.cell? (t95.add (Int.toNat t90 * 1)) = some (.int .u8 t96) ∧
  ∃ (t98 : Addr),
  t9_a = some t98 ∧
  0 ≤ (t90 : Int) ∧
  (t90 : Int) < ((t9_l : Nat) : Int) ∧
  (∃ u, w.cell? (t98.add (Int.toNat t90 * 1)) = some u) ∧
  w.frozen? (t98.add (Int.toNat t90 * 1)) = false ∧
  B2 ((IntKind.i64.wrap (t90 + 1)), ()) (w.setCell (t98.add (Int.toNat t90 * 1)) (.int .u8 (bitsI .xor .u8 t96 85)))

def S5_L7 (t3 : Bool) (t4 : Option Addr) (t5 : Option Addr) (t9_a : Option Addr) (t9_l : Nat) (t9_c : Nat) (t18_a : Option Addr) (t18_l : Nat) (t18_c : Nat) (t19 : Int) (t20 : Int) (t89 : Int) (t90 : Int) (w : World) (R : Value → World → Prop) (B1 : (Option Addr) × (Int) × Unit → World → Prop) (B2 : (Int) × Unit → World → Prop) : Prop :=
  cond (decide ((t90 : Int) < t89)) (
    S5_k8 t3 t4 t5 t9_a t9_l t9_c t18_a t18_l t18_c t19 t20 t89 t90 w R B1 B2
  ) (
    B1 (t4, (IntKind.i64.wrap (t20 + 1)), ()) w
  )

def S5_k6 (t3 : Bool) (t4 : Option Addr) (t5 : Option Addr) (t9_a : Option Addr) (t9_l : Nat) (t9_c : Nat) (t18_a : Option Addr) (t18_l : Nat) (t18_c : Nat) (t19 : Int) (t20 : Int) (w : World) (R : Value → World → Prop) (B1 : (Option Addr) × (Int) × Unit → World → Prop) : Prop :=
  ∃ (I : (Int) × Unit → World → Prop) (μ : (Int) × Unit → World → Nat),
  I (0, ()) w ∧
  ∀ (J : Env) (s : (Int) × Unit) (w' : World), I s w' →
    S5_L7 t3 t4 t5 t9_a t9_l t9_c t18_a t18_l t18_c t19 t20 (if 50 < ((t9_l : Nat) : Int) then 50 else ((t9_l : Nat) : Int)) s.1 w' R B1 (fun s' w'' => I s' w'' ∧ μ s' w'' < μ s w')

def S5_k5 (t3 : Bool) (t4 : Option Addr) (t5 : Option Addr) (t9_a : Option Addr) (t9_l : Nat) (t9_c : Nat) (t18_a : Option Addr) (t18_l : Nat) (t18_c : Nat) (t19 : Int) (t20 : Int) (t86 : Bool) (w : World) (R : Value → World → Prop) (B1 : (Option Addr) × (Int) × Unit → World → Prop) : Prop :=
  cond t86 (
    R (.bool false) w
  ) (
    S5_k6 t3 t4 t5 t9_a t9_l t9_c t18_a t18_l t18_c t19 t20 w R B1
  )

def S5_k4 (t3 : Bool) (t4 : Option Addr) (t5 : Option Addr) (t18_a : Option Addr) (t18_l : Nat) (t18_c : Nat) (t19 : Int) (t20 : Int) (w : World) (R : Value → World → Prop) (B1 : (Option Addr) × (Int) × Unit → World → Prop) : Prop :=
  Calls Try.prog 14 ⟨[(.pointer t4)]⟩ w fun e w_ =>
    ∃ (t52_0_a : Option Addr) (t52_0_l : Nat) (t52_0_c : Nat) (t52_1 : Int),
    e = .returned (.tuple ⟨[(.slice t52_0_a t52_0_l t52_0_c), (.int .i64 t52_1)]⟩) ∧
    Calls Try.prog 23 ⟨[(.pointer t5)]⟩ w_ fun e w__1 =>
      ∃ (t57_0 : ByteArray) (t57_1 : Int),
      e = .returned (.tuple ⟨[(.string t57_0), (.int .i64 t57_1)]⟩) ∧
      ∃ (t61 : ByteArray) (w__2 : World),
      (convert 28 9 (.slice t52_0_a t52_0_l t52_0_c)).run Try.prog w__1.drew = .ok (.string t61) w__2 ∧
      cond (!decide ((t61 : ByteArray) = t57_0)) (
        (
          (
            S5_k5 t3 t4 t5 t52_0_a t52_0_l t52_0_c t18_a t18_l t18_c t19 t20 true w__2 R B1
          ) ∧
          (
            S5_k5 t3 t4 t5 t52_0_a t52_0_l t52_0_c t18_a t18_l t18_c t19 t20 true w__2 R B1
          )
        ) ∧
        (
          (
            S5_k5 t3 t4 t5 t52_0_a t52_0_l t52_0_c t18_a t18_l t18_c t19 t20 true w__2 R B1
          ) ∧
          (
            S5_k5 t3 t4 t5 t52_0_a t52_0_l t52_0_c t18_a t18_l t18_c t19 t20 true w__2 R B1
          )
        )
      ) (
        cond (!decide ((t52_1 : Int) = t57_1)) (
          (
            (
              S5_k5 t3 t4 t5 t52_0_a t52_0_l t52_0_c t18_a t18_l t18_c t19 t20 true w__2 R B1
            ) ∧
            (
              S5_k5 t3 t4 t5 t52_0_a t52_0_l t52_0_c t18_a t18_l t18_c t19 t20 true w__2 R B1
            )
          ) ∧
          (
            (
              S5_k5 t3 t4 t5 t52_0_a t52_0_l t52_0_c t18_a t18_l t18_c t19 t20 true w__2 R B1
            ) ∧
            (
              S5_k5 t3 t4 t5 t52_0_a t52_0_l t52_0_c t18_a t18_l t18_c t19 t20 true w__2 R B1
            )
          )
        ) (
          ∃ (t73 : Addr),
          t5 = some t73 ∧
          (
            Calls Try.prog 12 ⟨[(.pointer t4)]⟩ w__2 fun e w__3 =>
              ∃ (t71 : Bool),
              e = .returned (.bool t71) ∧
              ∃ (t75 : Bool),
              w__3.cell? (t73.add 2) = some (.bool t75) ∧
              cond (!(t71 == t75)) (
                (
                  S5_k5 t3 t4 t5 t52_0_a t52_0_l t52_0_c t18_a t18_l t18_c t19 t20 true w__3 R B1
                ) ∧
                (
                  S5_k5 t3 t4 t5 t52_0_a t52_0_l t52_0_c t18_a t18_l t18_c t19 t20 true w__3 R B1
                )
              ) (
                ∃ (t82 : Addr),
                t5 = some t82 ∧
                (
                  Calls Try.prog 15 ⟨[(.pointer t4)]⟩ w__3 fun e w__4 =>
                    ∃ (t80 : Int),
                    e = .returned (.int .i64 t80) ∧
                    ∃ (t84 : Int),
                    w__4.cell? (t82.add 1) = some (.int .i64 t84) ∧
                    S5_k5 t3 t4 t5 t52_0_a t52_0_l t52_0_c t18_a t18_l t18_c t19 t20 (!decide ((t80 : Int) = t84)) w__4 R B1
                ) ∧
                (
                  ∃ (t84_1 : Int),
                  w__3.cell? (t82.add 1) = some (.int .i64 t84_1) ∧
                  Calls Try.prog 15 ⟨[(.pointer t4)]⟩ w__3 fun e w__5 =>
                    ∃ (t80_1 : Int),
                    e = .returned (.int .i64 t80_1) ∧
                    S5_k5 t3 t4 t5 t52_0_a t52_0_l t52_0_c t18_a t18_l t18_c t19 t20 (!decide ((t80_1 : Int) = t84_1)) w__5 R B1
                )
              )
          ) ∧
          (
            ∃ (t75_1 : Bool),
            w__2.cell? (t73.add 2) = some (.bool t75_1) ∧
            Calls Try.prog 12 ⟨[(.pointer t4)]⟩ w__2 fun e w__6 =>
              ∃ (t71_1 : Bool),
              e = .returned (.bool t71_1) ∧
              cond (!(t71_1 == t75_1)) (
                (
                  S5_k5 t3 t4 t5 t52_0_a t52_0_l t52_0_c t18_a t18_l t18_c t19 t20 true w__6 R B1
                ) ∧
                (
                  S5_k5 t3 t4 t5 t52_0_a t52_0_l t52_0_c t18_a t18_l t18_c t19 t20 true w__6 R B1
                )
              ) (
                ∃ (t82_1 : Addr),
                t5 = some t82_1 ∧
                (
                  Calls Try.prog 15 ⟨[(.pointer t4)]⟩ w__6 fun e w__7 =>
                    ∃ (t80_2 : Int),
                    e = .returned (.int .i64 t80_2) ∧
                    ∃ (t84_2 : Int),
                    w__7.cell? (t82_1.add 1) = some (.int .i64 t84_2) ∧
                    S5_k5 t3 t4 t5 t52_0_a t52_0_l t52_0_c t18_a t18_l t18_c t19 t20 (!decide ((t80_2 : Int) = t84_2)) w__7 R B1
                ) ∧
                (
                  ∃ (t84_3 : Int),
                  w__6.cell? (t82_1.add 1) = some (.int .i64 t84_3) ∧
                  Calls Try.prog 15 ⟨[(.pointer t4)]⟩ w__6 fun e w__8 =>
                    ∃ (t80_3 : Int),
                    e = .returned (.int .i64 t80_3) ∧
                    S5_k5 t3 t4 t5 t52_0_a t52_0_l t52_0_c t18_a t18_l t18_c t19 t20 (!decide ((t80_3 : Int) = t84_3)) w__8 R B1
                )
              )
          )
        )
      )

def S5_k3 (t3 : Bool) (t4 : Option Addr) (t5 : Option Addr) (t18_a : Option Addr) (t18_l : Nat) (t18_c : Nat) (t19 : Int) (t20 : Int) (t49 : Bool) (w : World) (R : Value → World → Prop) (B1 : (Option Addr) × (Int) × Unit → World → Prop) : Prop :=
  cond t49 (
    R (.bool false) w
  ) (
    S5_k4 t3 t4 t5 t18_a t18_l t18_c t19 t20 w R B1
  )

def S5_k2 (t3 : Bool) (t4 : Option Addr) (t5 : Option Addr) (t7 : Addr) (t18_a : Option Addr) (t18_l : Nat) (t18_c : Nat) (t19 : Int) (t20 : Int) (w : World) (R : Value → World → Prop) (B1 : (Option Addr) × (Int) × Unit → World → Prop) : Prop :=
  cond (Option.isNone t4) (
    (
      S5_k3 t3 t4 t5 t18_a t18_l t18_c t19 t20 true w.drew R B1
    ) ∧
    (
      S5_k3 t3 t4 t5 t18_a t18_l t18_c t19 t20 true w.drew R B1
    )
  ) (
    ∃ (t43_0 : Int),
    w.drew.cell? t7 = some (.int .u8 t43_0) ∧
    ∃ (t43_1_a : Option Addr) (t43_1_l : Nat) (t43_1_c : Nat),
    w.drew.cell? (t7.add 1) = some (.slice t43_1_a t43_1_l t43_1_c) ∧
    ∃ (t43_2 : Int),
    w.drew.cell? (t7.add 2) = some (.int .i64 t43_2) ∧
    (
      Calls Try.prog 17 ⟨[(.pointer t4), (.agg ⟨[(.int .u8 t43_0), (.slice t43_1_a t43_1_l t43_1_c), (.int .i64 t43_2)]⟩)]⟩ w.drew fun e w_ =>
        ∃ (t44 : Int),
        e = .returned (.int .i64 t44) ∧
        ∃ (t46_0 : Int),
        w_.cell? t7 = some (.int .u8 t46_0) ∧
        ∃ (t46_1_a : Option Addr) (t46_1_l : Nat) (t46_1_c : Nat),
        w_.cell? (t7.add 1) = some (.slice t46_1_a t46_1_l t46_1_c) ∧
        ∃ (t46_2 : Int),
        w_.cell? (t7.add 2) = some (.int .i64 t46_2) ∧
        Calls Try.prog 22 ⟨[(.pointer t5), (.agg ⟨[(.int .u8 t46_0), (.slice t46_1_a t46_1_l t46_1_c), (.int .i64 t46_2)]⟩)]⟩ w_ fun e w__1 =>
          ∃ (t47 : Int),
          e = .returned (.int .i64 t47) ∧
          S5_k3 t3 t4 t5 t18_a t18_l t18_c t19 t20 (!decide ((t44 : Int) = t47)) w__1 R B1
    ) ∧
    (
      ∃ (t46_0_1 : Int),
      w.drew.cell? t7 = some (.int .u8 t46_0_1) ∧
      ∃ (t46_1_a_1 : Option Addr) (t46_1_l_1 : Nat) (t46_1_c_1 : Nat),
      w.drew.cell? (t7.add 1) = some (.slice t46_1_a_1 t46_1_l_1 t46_1_c_1) ∧
      ∃ (t46_2_1 : Int),
      w.drew.cell? (t7.add 2) = some (.int .i64 t46_2_1) ∧
      Calls Try.prog 17 ⟨[(.pointer t4), (.agg ⟨[(.int .u8 t43_0), (.slice t43_1_a t43_1_l t43_1_c), (.int .i64 t43_2)]⟩)]⟩ w.drew fun e w__2 =>
        ∃ (t44_1 : Int),
        e = .returned (.int .i64 t44_1) ∧
        Calls Try.prog 22 ⟨[(.pointer t5), (.agg ⟨[(.int .u8 t46_0_1), (.slice t46_1_a_1 t46_1_l_1 t46_1_c_1), (.int .i64 t46_2_1)]⟩)]⟩ w__2 fun e w__3 =>
          ∃ (t47_1 : Int),
          e = .returned (.int .i64 t47_1) ∧
          S5_k3 t3 t4 t5 t18_a t18_l t18_c t19 t20 (!decide ((t44_1 : Int) = t47_1)) w__3 R B1
    )
  )

def S5_k1 (t3 : Bool) (t4 : Option Addr) (t5 : Option Addr) (t18_a : Option Addr) (t18_l : Nat) (t18_c : Nat) (t19 : Int) (t20 : Int) (w : World) (R : Value → World → Prop) (B1 : (Option Addr) × (Int) × Unit → World → Prop) : Prop :=
  ∃ (t22 : Addr),
  t18_a = some t22 ∧
  0 ≤ (t20 : Int) ∧
  (t20 : Int) < ((t18_l : Nat) : Int) ∧
  ∃ (t23_0 : Int),
  w.cell? (t22.add (Int.toNat t20 * 3)) = some (.int .u8 t23_0) ∧
  ∃ (t23_1_a : Option Addr) (t23_1_l : Nat) (t23_1_c : Nat),
  w.cell? ((t22.add (Int.toNat t20 * 3)).add 1) = some (.slice t23_1_a t23_1_l t23_1_c) ∧
  ∃ (t23_2 : Int),
  w.cell? ((t22.add (Int.toNat t20 * 3)).add 2) = some (.int .i64 t23_2) ∧
  (∃ u, (w.alloc (.cells ⟨[(.int .u8 0), (.slice none 0 0), (.int .i64 0)]⟩ 36)).cell? ⟨w.heap.size, 0, none⟩ = some u) ∧
  (w.alloc (.cells ⟨[(.int .u8 0), (.slice none 0 0), (.int .i64 0)]⟩ 36)).frozen? ⟨w.heap.size, 0, none⟩ = false ∧
  (∃ u, ((w.alloc (.cells ⟨[(.int .u8 0), (.slice none 0 0), (.int .i64 0)]⟩ 36)).setCell ⟨w.heap.size, 0, none⟩ (.int .u8 t23_0)).cell? ⟨w.heap.size, 1, none⟩ = some u) ∧
  ((w.alloc (.cells ⟨[(.int .u8 0), (.slice none 0 0), (.int .i64 0)]⟩ 36)).setCell ⟨w.heap.size, 0, none⟩ (.int .u8 t23_0)).frozen? ⟨w.heap.size, 1, none⟩ = false ∧
  (∃ u, (((w.alloc (.cells ⟨[(.int .u8 0), (.slice none 0 0), (.int .i64 0)]⟩ 36)).setCell ⟨w.heap.size, 0, none⟩ (.int .u8 t23_0)).setCell ⟨w.heap.size, 1, none⟩ (.slice t23_1_a t23_1_l t23_1_c)).cell? ⟨w.heap.size, 2, none⟩ = some u) ∧
  (((w.alloc (.cells ⟨[(.int .u8 0), (.slice none 0 0), (.int .i64 0)]⟩ 36)).setCell ⟨w.heap.size, 0, none⟩ (.int .u8 t23_0)).setCell ⟨w.heap.size, 1, none⟩ (.slice t23_1_a t23_1_l t23_1_c)).frozen? ⟨w.heap.size, 2, none⟩ = false ∧
  ∃ (t25 : Int),
  ((((w.alloc (.cells ⟨[(.int .u8 0), (.slice none 0 0), (.int .i64 0)]⟩ 36)).setCell ⟨w.heap.size, 0, none⟩ (.int .u8 t23_0)).setCell ⟨w.heap.size, 1, none⟩ (.slice t23_1_a t23_1_l t23_1_c)).setCell ⟨w.heap.size, 2, none⟩ (.int .i64 t23_2)).cell? ⟨w.heap.size, 0, none⟩ = some (.int .u8 t25) ∧
  (7 : Int) ≠ 0 ∧
  cond (decide (((Int.tmod t25 7) : Int) = 5)) (
    Calls Try.prog 20 ⟨[(.pointer t4)]⟩ ((((w.alloc (.cells ⟨[(.int .u8 0), (.slice none 0 0), (.int .i64 0)]⟩ 36)).setCell ⟨w.heap.size, 0, none⟩ (.int .u8 t23_0)).setCell ⟨w.heap.size, 1, none⟩ (.slice t23_1_a t23_1_l t23_1_c)).setCell ⟨w.heap.size, 2, none⟩ (.int .i64 t23_2)) fun e w_ =>
      ∃ (t29 : Option Addr),
      e = .returned (.pointer t29) ∧
      ∃ (t32_a : Option Addr) (t32_l : Nat) (t32_c : Nat) (w__1 : World),
      (convert 28 28 (.slice (some ⟨w_.heap.size, 0, none⟩) 5 5)).run Try.prog (w_.alloc (.cells ⟨[(.int .u8 111), (.int .u8 116), (.int .u8 104), (.int .u8 101), (.int .u8 114)]⟩ 5)) = .ok (.slice t32_a t32_l t32_c) w__1 ∧
      Calls Try.prog 11 ⟨[(.pointer t4), (.slice t32_a t32_l t32_c)]⟩ w__1 fun e w__2 =>
        ∃ (t33 : Int),
        e = .returned (.int .i64 t33) ∧
        Calls Try.prog 21 ⟨[(.pointer t4)]⟩ w__2 fun e w__3 =>
          ∃ (t35 : Int),
          e = .returned (.int .i64 t35) ∧
          Calls Try.prog 13 ⟨[(.pointer t4), (.int .i64 0)]⟩ w__3 fun e w__4 =>
            e = .returned (.tuple ⟨[]⟩) ∧
            S5_k2 t3 t29 t5 ⟨w.heap.size, 0, none⟩ t18_a t18_l t18_c t19 t20 w__4 R B1
  ) (
    S5_k2 t3 t4 t5 ⟨w.heap.size, 0, none⟩ t18_a t18_l t18_c t19 t20 ((((w.alloc (.cells ⟨[(.int .u8 0), (.slice none 0 0), (.int .i64 0)]⟩ 36)).setCell ⟨w.heap.size, 0, none⟩ (.int .u8 t23_0)).setCell ⟨w.heap.size, 1, none⟩ (.slice t23_1_a t23_1_l t23_1_c)).setCell ⟨w.heap.size, 2, none⟩ (.int .i64 t23_2)) R B1
  )

def S5_k9 (t3 : Bool) (t4 : Option Addr) (w : World) (R : Value → World → Prop) : Prop :=
  cond t3 (
    R (.bool (!(Option.isNone t4))) w
  ) (
    R (.bool false) w
  )

def S5_L0 (t3 : Bool) (t4 : Option Addr) (t5 : Option Addr) (t18_a : Option Addr) (t18_l : Nat) (t18_c : Nat) (t19 : Int) (t20 : Int) (w : World) (R : Value → World → Prop) (B1 : (Option Addr) × (Int) × Unit → World → Prop) : Prop :=
  cond (decide ((t20 : Int) < t19)) (
    S5_k1 t3 t4 t5 t18_a t18_l t18_c t19 t20 w R B1
  ) (
    S5_k9 t3 t4 w R
  )

def S5 (l_a : Option Addr) (l_l : Nat) (l_c : Nat) (w : World) (R : Value → World → Prop) : Prop :=
  Calls Try.prog 8 ⟨[]⟩ w fun e w_ =>
    ∃ (t14 : Bool),
    e = .returned (.bool t14) ∧
    Calls Try.prog 9 ⟨[]⟩ w_ fun e w__1 =>
      ∃ (t15 : Option Addr),
      e = .returned (.pointer t15) ∧
      Calls Try.prog 19 ⟨[]⟩ w__1 fun e w__2 =>
        ∃ (t16 : Option Addr),
        e = .returned (.pointer t16) ∧
        Calls Try.prog 16 ⟨[(.slice l_a l_l l_c)]⟩ w__2 fun e w__3 =>
          ∃ (t18_a : Option Addr) (t18_l : Nat) (t18_c : Nat),
          e = .returned (.slice t18_a t18_l t18_c) ∧
          ∃ (I : (Option Addr) × (Int) × Unit → World → Prop) (μ : (Option Addr) × (Int) × Unit → World → Nat),
          I (t15, 0, ()) w__3 ∧
          ∀ (J : Env) (s : (Option Addr) × (Int) × Unit) (w' : World), I s w' →
            S5_L0 t14 s.1 t16 t18_a t18_l t18_c ((t18_l : Nat) : Int) s.2.1 w' R (fun s' w'' => I s' w'' ∧ μ s' w'' < μ s w')

theorem S5_eq (l_a : Option Addr) (l_l : Nat) (l_c : Nat) (w : World) (R : Value → World → Prop) : Eng.R Try.prog ⟨cal, S5_nx⟩ 106 S5_ann [] (Try.f5.body.getD .skip) (bodyQ Try.prog #[.tmp 2] R) (argE [(.slice l_a l_l l_c)]) w = S5 l_a l_l l_c w R := by kernel_rfl
/-- A call of 'carfax/carfaxlaw15.DiskPlays', by its condition. -/
theorem S5_calls {l_a : Option Addr} {l_l : Nat} {l_c : Nat} {w : World} {R : Value → World → Prop} (hS : S5 l_a l_l l_c w R) : Ret Try.prog 5 [(.slice l_a l_l l_c)] w R :=
  R_calls (C := ⟨cal, S5_nx⟩) cal_ok follows Try.func5 (c := Try.f5.body.getD .skip) (res := #[.tmp 2]) (n := 106) (by kernel_rfl) (by kernel_rfl) (by kernel_rfl) (by kernel_rfl) ((S5_eq l_a l_l l_c w R).mpr hS)

def S6_ann (p : List Nat) : Option LA :=
  none

def S6_nx (t : Nat) : Option (TypeId × TypeId) := none

def S6 (a_0 : Int) (a_1_a : Option Addr) (a_1_l : Nat) (a_1_c : Nat) (a_2 : Int) (w : World) (R : Value → World → Prop) : Prop :=
  Calls Try.prog 8 ⟨[]⟩ (w.alloc (.cells ⟨[(.int .u8 a_0), (.slice a_1_a a_1_l a_1_c), (.int .i64 a_2)]⟩ 36)) fun e w_ =>
    ∃ (t9 : Bool),
    e = .returned (.bool t9) ∧
    Calls Try.prog 14 ⟨[(.pointer none)]⟩ w_ fun e w__1 =>
      ∃ (t12_0_a : Option Addr) (t12_0_l : Nat) (t12_0_c : Nat) (t12_1 : Int),
      e = .returned (.tuple ⟨[(.slice t12_0_a t12_0_l t12_0_c), (.int .i64 t12_1)]⟩) ∧
      ∃ (t16 : Int),
      w__1.cell? ⟨w.heap.size, 0, none⟩ = some (.int .u8 t16) ∧
      (7 : Int) ≠ 0 ∧
      ∃ (t19_0 : Int),
      w__1.cell? ⟨w.heap.size, 0, none⟩ = some (.int .u8 t19_0) ∧
      ∃ (t19_1_a : Option Addr) (t19_1_l : Nat) (t19_1_c : Nat),
      w__1.cell? ⟨w.heap.size, 1, none⟩ = some (.slice t19_1_a t19_1_l t19_1_c) ∧
      ∃ (t19_2 : Int),
      w__1.cell? ⟨w.heap.size, 2, none⟩ = some (.int .i64 t19_2) ∧
      Calls Try.prog 17 ⟨[(.pointer none), (.agg ⟨[(.int .u8 t19_0), (.slice t19_1_a t19_1_l t19_1_c), (.int .i64 t19_2)]⟩)]⟩ w__1 fun e w__2 =>
        ∃ (t20 : Int),
        e = .returned (.int .i64 t20) ∧
        cond t9 (
          cond (decide ((t12_1 : Int) = 2)) (
            cond (decide (((Int.tmod t16 7) : Int) < 3)) (
              cond ((decide ((t20 : Int) = 2)) == true) (
                Calls Try.prog 12 ⟨[(.pointer none)]⟩ w__2 fun e w__3 =>
                  ∃ (t39 : Bool),
                  e = .returned (.bool t39) ∧
                  cond (!t39) (
                    Calls Try.prog 15 ⟨[(.pointer none)]⟩ w__3 fun e w__4 =>
                      ∃ (t44 : Int),
                      e = .returned (.int .i64 t44) ∧
                      cond (decide ((t44 : Int) = 0)) (
                        Calls Try.prog 20 ⟨[(.pointer none)]⟩ w__4 fun e w__5 =>
                          ∃ (t49 : Option Addr),
                          e = .returned (.pointer t49) ∧
                          R (.bool (Option.isNone t49)) w__5
                      ) (
                        R (.bool false) w__4
                      )
                  ) (
                    R (.bool false) w__3
                  )
              ) (
                R (.bool false) w__2
              )
            ) (
              cond ((decide ((t20 : Int) = 2)) == (decide (((Int.tmod t16 7) : Int) = 6))) (
                Calls Try.prog 12 ⟨[(.pointer none)]⟩ w__2 fun e w__6 =>
                  ∃ (t39_1 : Bool),
                  e = .returned (.bool t39_1) ∧
                  cond (!t39_1) (
                    Calls Try.prog 15 ⟨[(.pointer none)]⟩ w__6 fun e w__7 =>
                      ∃ (t44_1 : Int),
                      e = .returned (.int .i64 t44_1) ∧
                      cond (decide ((t44_1 : Int) = 0)) (
                        Calls Try.prog 20 ⟨[(.pointer none)]⟩ w__7 fun e w__8 =>
                          ∃ (t49_1 : Option Addr),
                          e = .returned (.pointer t49_1) ∧
                          R (.bool (Option.isNone t49_1)) w__8
                      ) (
                        R (.bool false) w__7
                      )
                  ) (
                    R (.bool false) w__6
                  )
              ) (
                R (.bool false) w__2
              )
            )
          ) (
            R (.bool false) w__2
          )
        ) (
          R (.bool false) w__2
        )

theorem S6_eq (a_0 : Int) (a_1_a : Option Addr) (a_1_l : Nat) (a_1_c : Nat) (a_2 : Int) (w : World) (R : Value → World → Prop) : Eng.R Try.prog ⟨cal, S6_nx⟩ 52 S6_ann [] (Try.f6.body.getD .skip) (bodyQ Try.prog #[.tmp 2] R) (argE [(.agg ⟨[(.int .u8 a_0), (.slice a_1_a a_1_l a_1_c), (.int .i64 a_2)]⟩)]) w = S6 a_0 a_1_a a_1_l a_1_c a_2 w R := by kernel_rfl
/-- A call of 'carfax/carfaxlaw15.DiskNil', by its condition. -/
theorem S6_calls {a_0 : Int} {a_1_a : Option Addr} {a_1_l : Nat} {a_1_c : Nat} {a_2 : Int} {w : World} {R : Value → World → Prop} (hS : S6 a_0 a_1_a a_1_l a_1_c a_2 w R) : Ret Try.prog 6 [(.agg ⟨[(.int .u8 a_0), (.slice a_1_a a_1_l a_1_c), (.int .i64 a_2)]⟩)] w R :=
  R_calls (C := ⟨cal, S6_nx⟩) cal_ok follows Try.func6 (c := Try.f6.body.getD .skip) (res := #[.tmp 2]) (n := 52) (by kernel_rfl) (by kernel_rfl) (by kernel_rfl) (by kernel_rfl) ((S6_eq a_0 a_1_a a_1_l a_1_c a_2 w R).mpr hS)

def S7_ann (p : List Nat) : Option LA := match p with
  | [0, 1, 0, 1, 1, 1, 1] => some ⟨[1, 5, 6, 23, 24], [(25, .one (.int .i64))]⟩
  | [0, 1, 0, 1, 1, 1, 1, 1, 1, 1, 1, 1, 1, 1] => some ⟨[5, 6, 9, 10, 11, 12, 13, 74, 75], [(76, .one (.int .i64))]⟩
  | _ => none

def S7_nx (t : Nat) : Option (TypeId × TypeId) := none

def S7_k2 (t1_a : Option Addr) (t1_l : Nat) (t1_c : Nat) (t5 : Bool) (t6 : Option Addr) (t23_a : Option Addr) (t23_l : Nat) (t23_c : Nat) (t24 : Int) (t25 : Int) (w : World) (R : Value → World → Prop) (B1 : (Int) × Unit → World → Prop) : Prop :=
  ∃ (t27 : Addr),
  t23_a = some t27 ∧
  0 ≤ (t25 : Int) ∧
  (t25 : Int) < ((t23_l : Nat) : Int) ∧
  ∃ (t28_0 : Int),
  w.cell? (t27.add (Int.toNat t25 * 3)) = some (.int .u8 t28_0) ∧
  ∃ (t28_1_a : Option Addr) (t28_1_l : Nat) (t28_1_c : Nat),
  w.cell? ((t27.add (Int.toNat t25 * 3)).add 1) = some (.slice t28_1_a t28_1_l t28_1_c) ∧
  ∃ (t28_2 : Int),
  w.cell? ((t27.add (Int.toNat t25 * 3)).add 2) = some (.int .i64 t28_2) ∧
  (∃ u, (w.alloc (.cells ⟨[(.int .u8 0), (.slice none 0 0), (.int .i64 0)]⟩ 36)).cell? ⟨w.heap.size, 0, none⟩ = some u) ∧
  (w.alloc (.cells ⟨[(.int .u8 0), (.slice none 0 0), (.int .i64 0)]⟩ 36)).frozen? ⟨w.heap.size, 0, none⟩ = false ∧
  (∃ u, ((w.alloc (.cells ⟨[(.int .u8 0), (.slice none 0 0), (.int .i64 0)]⟩ 36)).setCell ⟨w.heap.size, 0, none⟩ (.int .u8 t28_0)).cell? ⟨w.heap.size, 1, none⟩ = some u) ∧
  ((w.alloc (.cells ⟨[(.int .u8 0), (.slice none 0 0), (.int .i64 0)]⟩ 36)).setCell ⟨w.heap.size, 0, none⟩ (.int .u8 t28_0)).frozen? ⟨w.heap.size, 1, none⟩ = false ∧
  (∃ u, (((w.alloc (.cells ⟨[(.int .u8 0), (.slice none 0 0), (.int .i64 0)]⟩ 36)).setCell ⟨w.heap.size, 0, none⟩ (.int .u8 t28_0)).setCell ⟨w.heap.size, 1, none⟩ (.slice t28_1_a t28_1_l t28_1_c)).cell? ⟨w.heap.size, 2, none⟩ = some u) ∧
  (((w.alloc (.cells ⟨[(.int .u8 0), (.slice none 0 0), (.int .i64 0)]⟩ 36)).setCell ⟨w.heap.size, 0, none⟩ (.int .u8 t28_0)).setCell ⟨w.heap.size, 1, none⟩ (.slice t28_1_a t28_1_l t28_1_c)).frozen? ⟨w.heap.size, 2, none⟩ = false ∧
  ∃ (t30_0 : Int),
  ((((w.alloc (.cells ⟨[(.int .u8 0), (.slice none 0 0), (.int .i64 0)]⟩ 36)).setCell ⟨w.heap.size, 0, none⟩ (.int .u8 t28_0)).setCell ⟨w.heap.size, 1, none⟩ (.slice t28_1_a t28_1_l t28_1_c)).setCell ⟨w.heap.size, 2, none⟩ (.int .i64 t28_2)).cell? ⟨w.heap.size, 0, none⟩ = some (.int .u8 t30_0) ∧
  ∃ (t30_1_a : Option Addr) (t30_1_l : Nat) (t30_1_c : Nat),
  ((((w.alloc (.cells ⟨[(.int .u8 0), (.slice none 0 0), (.int .i64 0)]⟩ 36)).setCell ⟨w.heap.size, 0, none⟩ (.int .u8 t28_0)).setCell ⟨w.heap.size, 1, none⟩ (.slice t28_1_a t28_1_l t28_1_c)).setCell ⟨w.heap.size, 2, none⟩ (.int .i64 t28_2)).cell? ⟨w.heap.size, 1, none⟩ = some (.slice t30_1_a t30_1_l t30_1_c) ∧
  ∃ (t30_2 : Int),
  ((((w.alloc (.cells ⟨[(.int .u8 0), (.slice none 0 0), (.int .i64 0)]⟩ 36)).setCell ⟨w.heap.size, 0, none⟩ (.int .u8 t28_0)).setCell ⟨w.heap.size, 1, none⟩ (.slice t28_1_a t28_1_l t28_1_c)).setCell ⟨w.heap.size, 2, none⟩ (.int .i64 t28_2)).cell? ⟨w.heap.size, 2, none⟩ = some (.int .i64 t30_2) ∧
  Calls Try.prog 17 ⟨[(.pointer t6), (.agg ⟨[(.int .u8 t30_0), (.slice t30_1_a t30_1_l t30_1_c), (.int .i64 t30_2)]⟩)]⟩ ((((w.alloc (.cells ⟨[(.int .u8 0), (.slice none 0 0), (.int .i64 0)]⟩ 36)).setCell ⟨w.heap.size, 0, none⟩ (.int .u8 t28_0)).setCell ⟨w.heap.size, 1, none⟩ (.slice t28_1_a t28_1_l t28_1_c)).setCell ⟨w.heap.size, 2, none⟩ (.int .i64 t28_2)) fun e w_ =>
    ∃ (t31 : Int),
    e = .returned (.int .i64 t31) ∧
    B1 ((IntKind.i64.wrap (t25 + 1)), ()) w_

def S7_k8 (t5 : Bool) (t6 : Option Addr) (t9_a : Option Addr) (t9_l : Nat) (t9_c : Nat) (t10 : Int) (t11 : Bool) (t12 : Int) (t13 : Option Addr) (t74_a : Option Addr) (t74_l : Nat) (t74_c : Nat) (t75 : Int) (t76 : Int) (w : World) (R : Value → World → Prop) (B1 : (Int) × Unit → World → Prop) : Prop :=
  ∃ (t78 : Addr),
  t74_a = some t78 ∧
  0 ≤ (t76 : Int) ∧
  (t76 : Int) < ((t74_l : Nat) : Int) ∧
  ∃ (t79_0 : Int),
  w.cell? (t78.add (Int.toNat t76 * 3)) = some (.int .u8 t79_0) ∧
  ∃ (t79_1_a : Option Addr) (t79_1_l : Nat) (t79_1_c : Nat),
  w.cell? ((t78.add (Int.toNat t76 * 3)).add 1) = some (.slice t79_1_a t79_1_l t79_1_c) ∧
  ∃ (t79_2 : Int),
  w.cell? ((t78.add (Int.toNat t76 * 3)).add 2) = some (.int .i64 t79_2) ∧
  (∃ u, (w.alloc (.cells ⟨[(.int .u8 0), (.slice none 0 0), (.int .i64 0)]⟩ 36)).cell? ⟨w.heap.size, 0, none⟩ = some u) ∧
  (w.alloc (.cells ⟨[(.int .u8 0), (.slice none 0 0), (.int .i64 0)]⟩ 36)).frozen? ⟨w.heap.size, 0, none⟩ = false ∧
  (∃ u, ((w.alloc (.cells ⟨[(.int .u8 0), (.slice none 0 0), (.int .i64 0)]⟩ 36)).setCell ⟨w.heap.size, 0, none⟩ (.int .u8 t79_0)).cell? ⟨w.heap.size, 1, none⟩ = some u) ∧
  ((w.alloc (.cells ⟨[(.int .u8 0), (.slice none 0 0), (.int .i64 0)]⟩ 36)).setCell ⟨w.heap.size, 0, none⟩ (.int .u8 t79_0)).frozen? ⟨w.heap.size, 1, none⟩ = false ∧
  (∃ u, (((w.alloc (.cells ⟨[(.int .u8 0), (.slice none 0 0), (.int .i64 0)]⟩ 36)).setCell ⟨w.heap.size, 0, none⟩ (.int .u8 t79_0)).setCell ⟨w.heap.size, 1, none⟩ (.slice t79_1_a t79_1_l t79_1_c)).cell? ⟨w.heap.size, 2, none⟩ = some u) ∧
  (((w.alloc (.cells ⟨[(.int .u8 0), (.slice none 0 0), (.int .i64 0)]⟩ 36)).setCell ⟨w.heap.size, 0, none⟩ (.int .u8 t79_0)).setCell ⟨w.heap.size, 1, none⟩ (.slice t79_1_a t79_1_l t79_1_c)).frozen? ⟨w.heap.size, 2, none⟩ = false ∧
  ∃ (t81_0 : Int),
  ((((w.alloc (.cells ⟨[(.int .u8 0), (.slice none 0 0), (.int .i64 0)]⟩ 36)).setCell ⟨w.heap.size, 0, none⟩ (.int .u8 t79_0)).setCell ⟨w.heap.size, 1, none⟩ (.slice t79_1_a t79_1_l t79_1_c)).setCell ⟨w.heap.size, 2, none⟩ (.int .i64 t79_2)).cell? ⟨w.heap.size, 0, none⟩ = some (.int .u8 t81_0) ∧
  ∃ (t81_1_a : Option Addr) (t81_1_l : Nat) (t81_1_c : Nat),
  ((((w.alloc (.cells ⟨[(.int .u8 0), (.slice none 0 0), (.int .i64 0)]⟩ 36)).setCell ⟨w.heap.size, 0, none⟩ (.int .u8 t79_0)).setCell ⟨w.heap.size, 1, none⟩ (.slice t79_1_a t79_1_l t79_1_c)).setCell ⟨w.heap.size, 2, none⟩ (.int .i64 t79_2)).cell? ⟨w.heap.size, 1, none⟩ = some (.slice t81_1_a t81_1_l t81_1_c) ∧
  ∃ (t81_2 : Int),
  ((((w.alloc (.cells ⟨[(.int .u8 0), (.slice none 0 0), (.int .i64 0)]⟩ 36)).setCell ⟨w.heap.size, 0, none⟩ (.int .u8 t79_0)).setCell ⟨w.heap.size, 1, none⟩ (.slice t79_1_a t79_1_l t79_1_c)).setCell ⟨w.heap.size, 2, none⟩ (.int .i64 t79_2)).cell? ⟨w.heap.size, 2, none⟩ = some (.int .i64 t81_2) ∧
  Calls Try.prog 17 ⟨[(.pointer t13), (.agg ⟨[(.int .u8 t81_0), (.slice t81_1_a t81_1_l t81_1_c), (.int .i64 t81_2)]⟩)]⟩ ((((w.alloc (.cells ⟨[(.int .u8 0), (.slice none 0 0), (.int .i64 0)]⟩ 36)).setCell ⟨w.heap.size, 0, none⟩ (.int .u8 t79_0)).setCell ⟨w.heap.size, 1, none⟩ (.slice t79_1_a t79_1_l t79_1_c)).setCell ⟨w.heap.size, 2, none⟩ (.int .i64 t79_2)) fun e w_ =>
    ∃ (t82 : Int),
    e = .returned (.int .i64 t82) ∧
    B1 ((IntKind.i64.wrap (t76 + 1)), ()) w_

def S7_k9 (t5 : Bool) (t6 : Option Addr) (t9_a : Option Addr) (t9_l : Nat) (t9_c : Nat) (t10 : Int) (t11 : Bool) (t12 : Int) (w : World) (R : Value → World → Prop) : Prop :=
  Calls Try.prog 14 ⟨[(.pointer t6)]⟩ w fun e w_ =>
    ∃ (t86_0_a : Option Addr) (t86_0_l : Nat) (t86_0_c : Nat) (t86_1 : Int),
    e = .returned (.tuple ⟨[(.slice t86_0_a t86_0_l t86_0_c), (.int .i64 t86_1)]⟩) ∧
    cond t5 (
      ∃ (t92 : ByteArray) (w__1 : World),
      (convert 28 9 (.slice t9_a t9_l t9_c)).run Try.prog w_ = .ok (.string t92) w__1 ∧
      ∃ (t94 : ByteArray) (w__2 : World),
      (convert 28 9 (.slice t86_0_a t86_0_l t86_0_c)).run Try.prog w__1 = .ok (.string t94) w__2 ∧
      cond (decide ((t92 : ByteArray) = t94)) (
        cond (decide ((t10 : Int) = t86_1)) (
          Calls Try.prog 12 ⟨[(.pointer t6)]⟩ w__2 fun e w__3 =>
            ∃ (t104 : Bool),
            e = .returned (.bool t104) ∧
            cond (t104 == t11) (
              Calls Try.prog 15 ⟨[(.pointer t6)]⟩ w__3 fun e w__4 =>
                ∃ (t110 : Int),
                e = .returned (.int .i64 t110) ∧
                R (.bool (decide ((t110 : Int) = t12))) w__4
            ) (
              R (.bool false) w__3
            )
        ) (
          R (.bool false) w__2
        )
      ) (
        R (.bool false) w__2
      )
    ) (
      R (.bool false) w_
    )

def S7_L7 (t5 : Bool) (t6 : Option Addr) (t9_a : Option Addr) (t9_l : Nat) (t9_c : Nat) (t10 : Int) (t11 : Bool) (t12 : Int) (t13 : Option Addr) (t74_a : Option Addr) (t74_l : Nat) (t74_c : Nat) (t75 : Int) (t76 : Int) (w : World) (R : Value → World → Prop) (B1 : (Int) × Unit → World → Prop) : Prop :=
  cond (decide ((t76 : Int) < t75)) (
    S7_k8 t5 t6 t9_a t9_l t9_c t10 t11 t12 t13 t74_a t74_l t74_c t75 t76 w R B1
  ) (
    S7_k9 t5 t6 t9_a t9_l t9_c t10 t11 t12 w R
  )

def S7_k6 (t1_a : Option Addr) (t1_l : Nat) (t1_c : Nat) (t5 : Bool) (t6 : Option Addr) (t9_a : Option Addr) (t9_l : Nat) (t9_c : Nat) (t10 : Int) (t11 : Bool) (t12 : Int) (t13 : Option Addr) (w : World) (R : Value → World → Prop) : Prop :=
  Calls Try.prog 16 ⟨[(.slice t1_a t1_l t1_c)]⟩ w fun e w_ =>
    ∃ (t74_a : Option Addr) (t74_l : Nat) (t74_c : Nat),
    e = .returned (.slice t74_a t74_l t74_c) ∧
    ∃ (I : (Int) × Unit → World → Prop) (μ : (Int) × Unit → World → Nat),
    I (0, ()) w_ ∧
    ∀ (J : Env) (s : (Int) × Unit) (w' : World), I s w' →
      S7_L7 t5 t6 t9_a t9_l t9_c t10 t11 t12 t13 t74_a t74_l t74_c ((t74_l : Nat) : Int) s.1 w' R (fun s' w'' => I s' w'' ∧ μ s' w'' < μ s w')

def S7_k5 (t1_a : Option Addr) (t1_l : Nat) (t1_c : Nat) (t5 : Bool) (t6 : Option Addr) (t9_a : Option Addr) (t9_l : Nat) (t9_c : Nat) (t10 : Int) (t11 : Bool) (t12 : Int) (t13 : Option Addr) (t72 : Bool) (w : World) (R : Value → World → Prop) : Prop :=
  cond t72 (
    R (.bool false) w
  ) (
    S7_k6 t1_a t1_l t1_c t5 t6 t9_a t9_l t9_c t10 t11 t12 t13 w R
  )

def S7_k4 (t1_a : Option Addr) (t1_l : Nat) (t1_c : Nat) (t5 : Bool) (t6 : Option Addr) (t9_a : Option Addr) (t9_l : Nat) (t9_c : Nat) (t10 : Int) (t11 : Bool) (t12 : Int) (t13 : Option Addr) (w : World) (R : Value → World → Prop) : Prop :=
  Calls Try.prog 14 ⟨[(.pointer t13)]⟩ w fun e w_ =>
    ∃ (t48_0_a : Option Addr) (t48_0_l : Nat) (t48_0_c : Nat) (t48_1 : Int),
    e = .returned (.tuple ⟨[(.slice t48_0_a t48_0_l t48_0_c), (.int .i64 t48_1)]⟩) ∧
    ∃ (t52 : ByteArray) (w__1 : World),
    (convert 28 9 (.slice t9_a t9_l t9_c)).run Try.prog w_ = .ok (.string t52) w__1 ∧
    ∃ (t54 : ByteArray) (w__2 : World),
    (convert 28 9 (.slice t48_0_a t48_0_l t48_0_c)).run Try.prog w__1 = .ok (.string t54) w__2 ∧
    cond (!decide ((t52 : ByteArray) = t54)) (
      S7_k5 t1_a t1_l t1_c t5 t6 t9_a t9_l t9_c t10 t11 t12 t13 true w__2 R
    ) (
      cond (!decide ((t10 : Int) = t48_1)) (
        S7_k5 t1_a t1_l t1_c t5 t6 t9_a t9_l t9_c t10 t11 t12 t13 true w__2 R
      ) (
        Calls Try.prog 12 ⟨[(.pointer t13)]⟩ w__2 fun e w__3 =>
          ∃ (t63 : Bool),
          e = .returned (.bool t63) ∧
          cond (!(t63 == t11)) (
            S7_k5 t1_a t1_l t1_c t5 t6 t9_a t9_l t9_c t10 t11 t12 t13 true w__3 R
          ) (
            Calls Try.prog 15 ⟨[(.pointer t13)]⟩ w__3 fun e w__4 =>
              ∃ (t69 : Int),
              e = .returned (.int .i64 t69) ∧
              S7_k5 t1_a t1_l t1_c t5 t6 t9_a t9_l t9_c t10 t11 t12 t13 (!decide ((t69 : Int) = t12)) w__4 R
          )
      )
    )

def S7_k3 (t1_a : Option Addr) (t1_l : Nat) (t1_c : Nat) (t5 : Bool) (t6 : Option Addr) (w : World) (R : Value → World → Prop) : Prop :=
  Calls Try.prog 14 ⟨[(.pointer t6)]⟩ w fun e w_ =>
    ∃ (t35_0_a : Option Addr) (t35_0_l : Nat) (t35_0_c : Nat) (t35_1 : Int),
    e = .returned (.tuple ⟨[(.slice t35_0_a t35_0_l t35_0_c), (.int .i64 t35_1)]⟩) ∧
    Calls Try.prog 12 ⟨[(.pointer t6)]⟩ w_ fun e w__1 =>
      ∃ (t39 : Bool),
      e = .returned (.bool t39) ∧
      Calls Try.prog 15 ⟨[(.pointer t6)]⟩ w__1 fun e w__2 =>
        ∃ (t41 : Int),
        e = .returned (.int .i64 t41) ∧
        Calls Try.prog 20 ⟨[(.pointer t6)]⟩ w__2 fun e w__3 =>
          ∃ (t43 : Option Addr),
          e = .returned (.pointer t43) ∧
          cond (Option.isNone t43) (
            R (.bool false) w__3
          ) (
            S7_k4 t1_a t1_l t1_c t5 t6 t35_0_a t35_0_l t35_0_c t35_1 t39 t41 t43 w__3 R
          )

def S7_L1 (t1_a : Option Addr) (t1_l : Nat) (t1_c : Nat) (t5 : Bool) (t6 : Option Addr) (t23_a : Option Addr) (t23_l : Nat) (t23_c : Nat) (t24 : Int) (t25 : Int) (w : World) (R : Value → World → Prop) (B1 : (Int) × Unit → World → Prop) : Prop :=
  cond (decide ((t25 : Int) < t24)) (
    S7_k2 t1_a t1_l t1_c t5 t6 t23_a t23_l t23_c t24 t25 w R B1
  ) (
    S7_k3 t1_a t1_l t1_c t5 t6 w R
  )

def S7_k0 (l_a : Option Addr) (l_l : Nat) (l_c : Nat) (t1_a : Option Addr) (t1_l : Nat) (t1_c : Nat) (t5 : Bool) (t6 : Option Addr) (w : World) (R : Value → World → Prop) : Prop :=
  Calls Try.prog 16 ⟨[(.slice l_a l_l l_c)]⟩ w fun e w_ =>
    ∃ (t23_a : Option Addr) (t23_l : Nat) (t23_c : Nat),
    e = .returned (.slice t23_a t23_l t23_c) ∧
    ∃ (I : (Int) × Unit → World → Prop) (μ : (Int) × Unit → World → Nat),
    I (0, ()) w_ ∧
    ∀ (J : Env) (s : (Int) × Unit) (w' : World), I s w' →
      S7_L1 t1_a t1_l t1_c t5 t6 t23_a t23_l t23_c ((t23_l : Nat) : Int) s.1 w' R (fun s' w'' => I s' w'' ∧ μ s' w'' < μ s w')

def S7 (l_a : Option Addr) (l_l : Nat) (l_c : Nat) (x1_a : Option Addr) (x1_l : Nat) (x1_c : Nat) (w : World) (R : Value → World → Prop) : Prop :=
  Calls Try.prog 8 ⟨[]⟩ w fun e w_ =>
    ∃ (t18 : Bool),
    e = .returned (.bool t18) ∧
    Calls Try.prog 9 ⟨[]⟩ w_ fun e w__1 =>
      ∃ (t19 : Option Addr),
      e = .returned (.pointer t19) ∧
      cond (Option.isNone t19) (
        R (.bool false) w__1
      ) (
        S7_k0 l_a l_l l_c x1_a x1_l x1_c t18 t19 w__1 R
      )

theorem S7_eq (l_a : Option Addr) (l_l : Nat) (l_c : Nat) (x1_a : Option Addr) (x1_l : Nat) (x1_c : Nat) (w : World) (R : Value → World → Prop) : Eng.R Try.prog ⟨cal, S7_nx⟩ 114 S7_ann [] (Try.f7.body.getD .skip) (bodyQ Try.prog #[.tmp 4] R) (argE [(.slice l_a l_l l_c), (.slice x1_a x1_l x1_c)]) w = S7 l_a l_l l_c x1_a x1_l x1_c w R := by kernel_rfl
/-- A call of 'carfax/carfaxlaw15.DiskApart', by its condition. -/
theorem S7_calls {l_a : Option Addr} {l_l : Nat} {l_c : Nat} {x1_a : Option Addr} {x1_l : Nat} {x1_c : Nat} {w : World} {R : Value → World → Prop} (hS : S7 l_a l_l l_c x1_a x1_l x1_c w R) : Ret Try.prog 7 [(.slice l_a l_l l_c), (.slice x1_a x1_l x1_c)] w R :=
  R_calls (C := ⟨cal, S7_nx⟩) cal_ok follows Try.func7 (c := Try.f7.body.getD .skip) (res := #[.tmp 4]) (n := 114) (by kernel_rfl) (by kernel_rfl) (by kernel_rfl) (by kernel_rfl) ((S7_eq l_a l_l l_c x1_a x1_l x1_c w R).mpr hS)

def S8_ann (p : List Nat) : Option LA :=
  none

def S8_nx (t : Nat) : Option (TypeId × TypeId) := none

def S8_k1 (d : Option Addr) (w : World) (R : Value → World → Prop) : Prop :=
  Calls Try.prog 13 ⟨[(.pointer d), (.int .i64 1)]⟩ w fun e w_ =>
    e = .returned (.tuple ⟨[]⟩) ∧
    Calls Try.prog 14 ⟨[(.pointer d)]⟩ w_ fun e w__1 =>
      ∃ (t30_0_a : Option Addr) (t30_0_l : Nat) (t30_0_c : Nat) (t30_1 : Int),
      e = .returned (.tuple ⟨[(.slice t30_0_a t30_0_l t30_0_c), (.int .i64 t30_1)]⟩) ∧
      ∃ (t34 : ByteArray) (w__2 : World),
      (convert 28 9 (.slice t30_0_a t30_0_l t30_0_c)).run Try.prog w__1 = .ok (.string t34) w__2 ∧
      cond (decide ((t34 : ByteArray) = ⟨#[97, 98, 99, 100]⟩)) (
        R (.bool (decide ((t30_1 : Int) = 0))) w__2
      ) (
        R (.bool false) w__2
      )

def S8_k0 (d : Option Addr) (t25 : Bool) (w : World) (R : Value → World → Prop) : Prop :=
  cond t25 (
    R (.bool false) w
  ) (
    S8_k1 d w R
  )

def S8 (w : World) (R : Value → World → Prop) : Prop :=
  Calls Try.prog 9 ⟨[]⟩ w fun e w_ =>
    ∃ (t4 : Option Addr),
    e = .returned (.pointer t4) ∧
    cond (Option.isNone t4) (
      S8_k0 t4 true w_ R
    ) (
      ∃ (t10_a : Option Addr) (t10_l : Nat) (t10_c : Nat) (w__1 : World),
      (convert 28 28 (.slice (some ⟨w_.heap.size, 0, none⟩) 3 3)).run Try.prog (w_.alloc (.cells ⟨[(.int .u8 97), (.int .u8 98), (.int .u8 99)]⟩ 5)) = .ok (.slice t10_a t10_l t10_c) w__1 ∧
      Calls Try.prog 11 ⟨[(.pointer t4), (.slice t10_a t10_l t10_c)]⟩ w__1 fun e w__2 =>
        ∃ (t11 : Int),
        e = .returned (.int .i64 t11) ∧
        cond (!decide ((t11 : Int) = 0)) (
          S8_k0 t4 true w__2 R
        ) (
          Calls Try.prog 21 ⟨[(.pointer t4)]⟩ w__2 fun e w__3 =>
            ∃ (t16 : Int),
            e = .returned (.int .i64 t16) ∧
            cond (!decide ((t16 : Int) = 0)) (
              S8_k0 t4 true w__3 R
            ) (
              ∃ (t22_a : Option Addr) (t22_l : Nat) (t22_c : Nat) (w__4 : World),
              (convert 28 28 (.slice (some ⟨w__3.heap.size, 0, none⟩) 2 2)).run Try.prog (w__3.alloc (.cells ⟨[(.int .u8 100), (.int .u8 101)]⟩ 5)) = .ok (.slice t22_a t22_l t22_c) w__4 ∧
              Calls Try.prog 11 ⟨[(.pointer t4), (.slice t22_a t22_l t22_c)]⟩ w__4 fun e w__5 =>
                ∃ (t23 : Int),
                e = .returned (.int .i64 t23) ∧
                S8_k0 t4 (!decide ((t23 : Int) = 0)) w__5 R
            )
        )
    )

theorem S8_eq (w : World) (R : Value → World → Prop) : Eng.R Try.prog ⟨cal, S8_nx⟩ 40 S8_ann [] (Try.f8.body.getD .skip) (bodyQ Try.prog #[.tmp 0] R) (argE []) w = S8  w R := by kernel_rfl
/-- A call of 'carfax/carfaxlaw15.shown', by its condition. -/
theorem S8_calls {w : World} {R : Value → World → Prop} (hS : S8  w R) : Ret Try.prog 8 [] w R :=
  R_calls (C := ⟨cal, S8_nx⟩) cal_ok follows Try.func8 (c := Try.f8.body.getD .skip) (res := #[.tmp 0]) (n := 40) (by kernel_rfl) (by kernel_rfl) (by kernel_rfl) (by kernel_rfl) ((S8_eq  w R).mpr hS)

def S9_ann (p : List Nat) : Option LA :=
  none

def S9_nx (t : Nat) : Option (TypeId × TypeId) := none

def S9 (w : World) (R : Value → World → Prop) : Prop :=
  R (.pointer (some ⟨w.heap.size, 0, none⟩)) (w.alloc (.cells ⟨[(.slice none 0 0), (.int .i64 0), (.bool false), (.int .i64 (-1))]⟩ 51))

theorem S9_eq (w : World) (R : Value → World → Prop) : Eng.R Try.prog ⟨cal, S9_nx⟩ 3 S9_ann [] (Try.f9.body.getD .skip) (bodyQ Try.prog #[.tmp 0] R) (argE []) w = S9  w R := by kernel_rfl
/-- A call of 'carfax/disk.New', by its condition. -/
theorem S9_calls {w : World} {R : Value → World → Prop} (hS : S9  w R) : Ret Try.prog 9 [] w R :=
  R_calls (C := ⟨cal, S9_nx⟩) cal_ok follows Try.func9 (c := Try.f9.body.getD .skip) (res := #[.tmp 0]) (n := 3) (by kernel_rfl) (by kernel_rfl) (by kernel_rfl) (by kernel_rfl) ((S9_eq  w R).mpr hS)

def S10_ann (p : List Nat) : Option LA :=
  none

def S10_nx (t : Nat) : Option (TypeId × TypeId) := none

def S10_k0 (d : Option Addr) (after : Int) (t12 : Bool) (w : World) (R : Value → World → Prop) : Prop :=
  cond t12 (
    ∃ (t16 : Addr),
    d = some t16 ∧
    (∃ u, w.cell? (t16.add 3) = some u) ∧
    w.frozen? (t16.add 3) = false ∧
    R (.tuple ⟨[]⟩) (w.setCell (t16.add 3) (.int .i64 (if (-1) > after then (-1) else after)))
  ) (
    R (.tuple ⟨[]⟩) w
  )

def S10 (d : Option Addr) (after : Int) (w : World) (R : Value → World → Prop) : Prop :=
  cond (!(Option.isNone d)) (
    ∃ (t8 : Addr),
    d = some t8 ∧
    ∃ (t10 : Bool),
    w.cell? (t8.add 2) = some (.bool t10) ∧
    S10_k0 d after (!t10) w R
  ) (
    S10_k0 d after false w R
  )

theorem S10_eq (d : Option Addr) (after : Int) (w : World) (R : Value → World → Prop) : Eng.R Try.prog ⟨cal, S10_nx⟩ 18 S10_ann [] (Try.f10.body.getD .skip) (bodyQ Try.prog #[] R) (argE [(.pointer d), (.int .i64 after)]) w = S10 d after w R := by kernel_rfl
/-- A call of '(*carfax/disk.Disk).Cut', by its condition. -/
theorem S10_calls {d : Option Addr} {after : Int} {w : World} {R : Value → World → Prop} (hS : S10 d after w R) : Ret Try.prog 10 [(.pointer d), (.int .i64 after)] w R :=
  R_calls (C := ⟨cal, S10_nx⟩) cal_ok follows Try.func10 (c := Try.f10.body.getD .skip) (res := #[]) (n := 18) (by kernel_rfl) (by kernel_rfl) (by kernel_rfl) (by kernel_rfl) ((S10_eq d after w R).mpr hS)

def S11_ann (p : List Nat) : Option LA :=
  none

def S11_nx (t : Nat) : Option (TypeId × TypeId) := none

def S11_k1 (d : Option Addr) (b_a : Option Addr) (b_l : Nat) (b_c : Nat) (w : World) (R : Value → World → Prop) : Prop :=
  ∃ (t22 : Addr),
  d = some t22 ∧
  ∃ (t24_a : Option Addr) (t24_l : Nat) (t24_c : Nat),
  w.cell? t22 = some (.slice t24_a t24_l t24_c) ∧
  ∃ (t26_a : Option Addr) (t26_l : Nat) (t26_c : Nat) (w_ : World),
  (Builtin.append_ #[28, 28] 28 ⟨[(.slice t24_a t24_l t24_c), (.slice b_a b_l b_c)]⟩).run Try.prog w = .ok (.slice t26_a t26_l t26_c) w_ ∧
  ∃ (t27 : Addr),
  d = some t27 ∧
  (∃ u, w_.cell? t27 = some u) ∧
  w_.frozen? t27 = false ∧
  R (.int .i64 0) (w_.setCell t27 (.slice t26_a t26_l t26_c))

def S11_k0 (d : Option Addr) (b_a : Option Addr) (b_l : Nat) (b_c : Nat) (w : World) (R : Value → World → Prop) : Prop :=
  ∃ (t14 : Addr),
  d = some t14 ∧
  ∃ (t16_a : Option Addr) (t16_l : Nat) (t16_c : Nat),
  w.cell? t14 = some (.slice t16_a t16_l t16_c) ∧
  cond (decide (((IntKind.i64.wrap (1048576 - ((t16_l : Nat) : Int))) : Int) < ((b_l : Nat) : Int))) (
    R (.int .i64 4) w
  ) (
    S11_k1 d b_a b_l b_c w R
  )

def S11 (d : Option Addr) (b_a : Option Addr) (b_l : Nat) (b_c : Nat) (w : World) (R : Value → World → Prop) : Prop :=
  Calls Try.prog 24 ⟨[(.pointer d)]⟩ w fun e w_ =>
    ∃ (t7 : Int),
    e = .returned (.int .i64 t7) ∧
    cond (!decide ((t7 : Int) = 0)) (
      R (.int .i64 t7) w_
    ) (
      S11_k0 d b_a b_l b_c w_ R
    )

theorem S11_eq (d : Option Addr) (b_a : Option Addr) (b_l : Nat) (b_c : Nat) (w : World) (R : Value → World → Prop) : Eng.R Try.prog ⟨cal, S11_nx⟩ 29 S11_ann [] (Try.f11.body.getD .skip) (bodyQ Try.prog #[.tmp 4] R) (argE [(.pointer d), (.slice b_a b_l b_c)]) w = S11 d b_a b_l b_c w R := by kernel_rfl
/-- A call of '(*carfax/disk.Disk).Append', by its condition. -/
theorem S11_calls {d : Option Addr} {b_a : Option Addr} {b_l : Nat} {b_c : Nat} {w : World} {R : Value → World → Prop} (hS : S11 d b_a b_l b_c w R) : Ret Try.prog 11 [(.pointer d), (.slice b_a b_l b_c)] w R :=
  R_calls (C := ⟨cal, S11_nx⟩) cal_ok follows Try.func11 (c := Try.f11.body.getD .skip) (res := #[.tmp 4]) (n := 29) (by kernel_rfl) (by kernel_rfl) (by kernel_rfl) (by kernel_rfl) ((S11_eq d b_a b_l b_c w R).mpr hS)

def S12_ann (p : List Nat) : Option LA :=
  none

def S12_nx (t : Nat) : Option (TypeId × TypeId) := none

def S12 (d : Option Addr) (w : World) (R : Value → World → Prop) : Prop :=
  cond (!(Option.isNone d)) (
    ∃ (t7 : Addr),
    d = some t7 ∧
    ∃ (t9 : Bool),
    w.cell? (t7.add 2) = some (.bool t9) ∧
    R (.bool t9) w
  ) (
    R (.bool false) w
  )

theorem S12_eq (d : Option Addr) (w : World) (R : Value → World → Prop) : Eng.R Try.prog ⟨cal, S12_nx⟩ 11 S12_ann [] (Try.f12.body.getD .skip) (bodyQ Try.prog #[.tmp 2] R) (argE [(.pointer d)]) w = S12 d w R := by kernel_rfl
/-- A call of '(*carfax/disk.Disk).Dead', by its condition. -/
theorem S12_calls {d : Option Addr} {w : World} {R : Value → World → Prop} (hS : S12 d w R) : Ret Try.prog 12 [(.pointer d)] w R :=
  R_calls (C := ⟨cal, S12_nx⟩) cal_ok follows Try.func12 (c := Try.f12.body.getD .skip) (res := #[.tmp 2]) (n := 11) (by kernel_rfl) (by kernel_rfl) (by kernel_rfl) (by kernel_rfl) ((S12_eq d w R).mpr hS)

def S13_ann (p : List Nat) : Option LA :=
  none

def S13_nx (t : Nat) : Option (TypeId × TypeId) := none

def S13_k2 (d : Option Addr) (w : World) (R : Value → World → Prop) : Prop :=
  ∃ (t38 : Addr),
  d = some t38 ∧
  ∃ (t40_a : Option Addr) (t40_l : Nat) (t40_c : Nat),
  w.cell? t38 = some (.slice t40_a t40_l t40_c) ∧
  ∃ (t42 : Addr),
  d = some t42 ∧
  (∃ u, w.cell? (t42.add 1) = some u) ∧
  w.frozen? (t42.add 1) = false ∧
  ∃ (t44 : Addr),
  d = some t44 ∧
  (∃ u, (w.setCell (t42.add 1) (.int .i64 ((t40_l : Nat) : Int))).cell? (t44.add 2) = some u) ∧
  (w.setCell (t42.add 1) (.int .i64 ((t40_l : Nat) : Int))).frozen? (t44.add 2) = false ∧
  ∃ (t46 : Addr),
  d = some t46 ∧
  (∃ u, ((w.setCell (t42.add 1) (.int .i64 ((t40_l : Nat) : Int))).setCell (t44.add 2) (.bool false)).cell? (t46.add 3) = some u) ∧
  ((w.setCell (t42.add 1) (.int .i64 ((t40_l : Nat) : Int))).setCell (t44.add 2) (.bool false)).frozen? (t46.add 3) = false ∧
  R (.tuple ⟨[]⟩) (((w.setCell (t42.add 1) (.int .i64 ((t40_l : Nat) : Int))).setCell (t44.add 2) (.bool false)).setCell (t46.add 3) (.int .i64 (-1)))

def S13_k1 (d : Option Addr) (n_ : Int) (w : World) (R : Value → World → Prop) : Prop :=
  ∃ (t22 : Addr),
  d = some t22 ∧
  ∃ (t26 : Addr),
  d = some t26 ∧
  ∃ (t28 : Int),
  w.drew.cell? (t26.add 1) = some (.int .i64 t28) ∧
  ∃ (t24_a : Option Addr) (t24_l : Nat) (t24_c : Nat),
  w.drew.cell? t22 = some (.slice t24_a t24_l t24_c) ∧
  0 ≤ ((IntKind.i64.wrap (t28 + n_)) : Int) ∧
  ((IntKind.i64.wrap (t28 + n_)) : Int) ≤ ((t24_c : Nat) : Int) ∧
  ∃ (t32 : Addr),
  d = some t32 ∧
  (∃ u, w.drew.cell? t32 = some u) ∧
  w.drew.frozen? t32 = false ∧
  S13_k2 d (w.drew.setCell t32 (.slice (slAddr t24_a t24_c 0 1) ((Int.toNat (IntKind.i64.wrap (t28 + n_))) - 0) (t24_c - 0))) R

def S13_k0 (d : Option Addr) (keep : Int) (w : World) (R : Value → World → Prop) : Prop :=
  ∃ (t10 : Addr),
  d = some t10 ∧
  ∃ (t15 : Addr),
  d = some t15 ∧
  ∃ (t12_a : Option Addr) (t12_l : Nat) (t12_c : Nat),
  w.drew.cell? t10 = some (.slice t12_a t12_l t12_c) ∧
  ∃ (t17 : Int),
  w.drew.cell? (t15.add 1) = some (.int .i64 t17) ∧
  S13_k1 d (if (IntKind.i64.wrap (((t12_l : Nat) : Int) - t17)) < (if 0 > keep then 0 else keep) then (IntKind.i64.wrap (((t12_l : Nat) : Int) - t17)) else (if 0 > keep then 0 else keep)) w.drew R

def S13 (d : Option Addr) (keep : Int) (w : World) (R : Value → World → Prop) : Prop :=
  cond (Option.isNone d) (
    R (.tuple ⟨[]⟩) w
  ) (
    S13_k0 d keep w R
  )

theorem S13_eq (d : Option Addr) (keep : Int) (w : World) (R : Value → World → Prop) : Eng.R Try.prog ⟨cal, S13_nx⟩ 48 S13_ann [] (Try.f13.body.getD .skip) (bodyQ Try.prog #[] R) (argE [(.pointer d), (.int .i64 keep)]) w = S13 d keep w R := by kernel_rfl
/-- A call of '(*carfax/disk.Disk).Crash', by its condition. -/
theorem S13_calls {d : Option Addr} {keep : Int} {w : World} {R : Value → World → Prop} (hS : S13 d keep w R) : Ret Try.prog 13 [(.pointer d), (.int .i64 keep)] w R :=
  R_calls (C := ⟨cal, S13_nx⟩) cal_ok follows Try.func13 (c := Try.f13.body.getD .skip) (res := #[]) (n := 48) (by kernel_rfl) (by kernel_rfl) (by kernel_rfl) (by kernel_rfl) ((S13_eq d keep w R).mpr hS)

def S14_ann (p : List Nat) : Option LA :=
  none

def S14_nx (t : Nat) : Option (TypeId × TypeId) := none

def S14_k0 (d : Option Addr) (w : World) (R : Value → World → Prop) : Prop :=
  ∃ (t14 : Addr),
  d = some t14 ∧
  ∃ (t16_a : Option Addr) (t16_l : Nat) (t16_c : Nat),
  w.cell? t14 = some (.slice t16_a t16_l t16_c) ∧
  ∃ (t18_a : Option Addr) (t18_l : Nat) (t18_c : Nat) (w_ : World),
  (Instr.makeSlice 28 (.int .i64 ((t16_l : Nat) : Int)) (.int .i64 ((t16_l : Nat) : Int))).run Try.prog w = .ok (.slice t18_a t18_l t18_c) w_ ∧
  ∃ (t21 : Addr),
  d = some t21 ∧
  ∃ (t23_a : Option Addr) (t23_l : Nat) (t23_c : Nat),
  w_.cell? t21 = some (.slice t23_a t23_l t23_c) ∧
  ∃ (t24 : Int) (w__1 : World),
  (Builtin.copy_ #[28, 28] 3 ⟨[(.slice t18_a t18_l t18_c), (.slice t23_a t23_l t23_c)]⟩).run Try.prog w_ = .ok (.int .i64 t24) w__1 ∧
  R (.tuple ⟨[(.slice t18_a t18_l t18_c), (.int .i64 0)]⟩) w__1

def S14 (d : Option Addr) (w : World) (R : Value → World → Prop) : Prop :=
  cond (Option.isNone d) (
    R (.tuple ⟨[(.slice none 0 0), (.int .i64 2)]⟩) w
  ) (
    ∃ (t10 : Addr),
    d = some t10 ∧
    ∃ (t12 : Bool),
    w.cell? (t10.add 2) = some (.bool t12) ∧
    cond t12 (
      R (.tuple ⟨[(.slice none 0 0), (.int .i64 5)]⟩) w
    ) (
      S14_k0 d w R
    )
  )

theorem S14_eq (d : Option Addr) (w : World) (R : Value → World → Prop) : Eng.R Try.prog ⟨cal, S14_nx⟩ 26 S14_ann [] (Try.f14.body.getD .skip) (bodyQ Try.prog #[.tmp 2, .tmp 3] R) (argE [(.pointer d)]) w = S14 d w R := by kernel_rfl
/-- A call of '(*carfax/disk.Disk).Read', by its condition. -/
theorem S14_calls {d : Option Addr} {w : World} {R : Value → World → Prop} (hS : S14 d w R) : Ret Try.prog 14 [(.pointer d)] w R :=
  R_calls (C := ⟨cal, S14_nx⟩) cal_ok follows Try.func14 (c := Try.f14.body.getD .skip) (res := #[.tmp 2, .tmp 3]) (n := 26) (by kernel_rfl) (by kernel_rfl) (by kernel_rfl) (by kernel_rfl) ((S14_eq d w R).mpr hS)

def S15_ann (p : List Nat) : Option LA :=
  none

def S15_nx (t : Nat) : Option (TypeId × TypeId) := none

def S15_k0 (d : Option Addr) (w : World) (R : Value → World → Prop) : Prop :=
  ∃ (t6 : Addr),
  d = some t6 ∧
  ∃ (t8 : Int),
  w.cell? (t6.add 1) = some (.int .i64 t8) ∧
  R (.int .i64 t8) w

def S15 (d : Option Addr) (w : World) (R : Value → World → Prop) : Prop :=
  cond (Option.isNone d) (
    R (.int .i64 0) w
  ) (
    S15_k0 d w R
  )

theorem S15_eq (d : Option Addr) (w : World) (R : Value → World → Prop) : Eng.R Try.prog ⟨cal, S15_nx⟩ 9 S15_ann [] (Try.f15.body.getD .skip) (bodyQ Try.prog #[.tmp 2] R) (argE [(.pointer d)]) w = S15 d w R := by kernel_rfl
/-- A call of '(*carfax/disk.Disk).Safe', by its condition. -/
theorem S15_calls {d : Option Addr} {w : World} {R : Value → World → Prop} (hS : S15 d w R) : Ret Try.prog 15 [(.pointer d)] w R :=
  R_calls (C := ⟨cal, S15_nx⟩) cal_ok follows Try.func15 (c := Try.f15.body.getD .skip) (res := #[.tmp 2]) (n := 9) (by kernel_rfl) (by kernel_rfl) (by kernel_rfl) (by kernel_rfl) ((S15_eq d w R).mpr hS)

def S16_ann (p : List Nat) : Option LA := match p with
  | [0, 1, 0, 1, 1] => some ⟨[0, 6], [(3, .one (.int .i64)), (7, .one (.int .i64))]⟩
  | _ => none

def S16_nx (t : Nat) : Option (TypeId × TypeId) := none

def S16_k3 (l_a : Option Addr) (l_l : Nat) (l_c : Nat) (left : Int) (i : Int) (t6 : Int) (t7 : Int) (w : World) (R : Value → World → Prop) (B1 : (Int) × (Int) × Unit → World → Prop) : Prop :=
  ∃ (t28 : Addr),
  l_a = some t28 ∧
  0 ≤ (i : Int) ∧
  (i : Int) < ((l_l : Nat) : Int) ∧
  ∃ (t30_a : Option Addr) (t30_l : Nat) (t30_c : Nat),
  w.cell? ((t28.add (Int.toNat i * 3)).add 1) = some (.slice t30_a t30_l t30_c) ∧
  B1 ((IntKind.i64.wrap (left - ((t30_l : Nat) : Int))), (IntKind.i64.wrap (t7 + 1)), ()) w

def S16_k2 (l_a : Option Addr) (l_l : Nat) (l_c : Nat) (left : Int) (i : Int) (t6 : Int) (t7 : Int) (t21 : Bool) (w : World) (R : Value → World → Prop) (B1 : (Int) × (Int) × Unit → World → Prop) : Prop :=
  cond t21 (
    0 ≤ (i : Int) ∧
    (i : Int) ≤ ((l_c : Nat) : Int) ∧
    R (.slice (slAddr l_a l_c 0 3) ((Int.toNat i) - 0) (l_c - 0)) w
  ) (
    S16_k3 l_a l_l l_c left i t6 t7 w R B1
  )

def S16_k1 (l_a : Option Addr) (l_l : Nat) (l_c : Nat) (left : Int) (t6 : Int) (t7 : Int) (w : World) (R : Value → World → Prop) (B1 : (Int) × (Int) × Unit → World → Prop) : Prop :=
  cond (decide ((100 : Int) ≤ t7)) (
    S16_k2 l_a l_l l_c left t7 t6 t7 true w R B1
  ) (
    ∃ (t15 : Addr),
    l_a = some t15 ∧
    0 ≤ (t7 : Int) ∧
    (t7 : Int) < ((l_l : Nat) : Int) ∧
    ∃ (t17_a : Option Addr) (t17_l : Nat) (t17_c : Nat),
    w.cell? ((t15.add (Int.toNat t7 * 3)).add 1) = some (.slice t17_a t17_l t17_c) ∧
    S16_k2 l_a l_l l_c left t7 t6 t7 (decide ((left : Int) < ((t17_l : Nat) : Int))) w R B1
  )

def S16_L0 (l_a : Option Addr) (l_l : Nat) (l_c : Nat) (left : Int) (t6 : Int) (t7 : Int) (w : World) (R : Value → World → Prop) (B1 : (Int) × (Int) × Unit → World → Prop) : Prop :=
  cond (decide ((t7 : Int) < t6)) (
    S16_k1 l_a l_l l_c left t6 t7 w R B1
  ) (
    R (.slice l_a l_l l_c) w
  )

def S16 (l_a : Option Addr) (l_l : Nat) (l_c : Nat) (w : World) (R : Value → World → Prop) : Prop :=
  ∃ (I : (Int) × (Int) × Unit → World → Prop) (μ : (Int) × (Int) × Unit → World → Nat),
  I (10000, 0, ()) w ∧
  ∀ (J : Env) (s : (Int) × (Int) × Unit) (w' : World), I s w' →
    S16_L0 l_a l_l l_c s.1 ((l_l : Nat) : Int) s.2.1 w' R (fun s' w'' => I s' w'' ∧ μ s' w'' < μ s w')

theorem S16_eq (l_a : Option Addr) (l_l : Nat) (l_c : Nat) (w : World) (R : Value → World → Prop) : Eng.R Try.prog ⟨cal, S16_nx⟩ 35 S16_ann [] (Try.f16.body.getD .skip) (bodyQ Try.prog #[.tmp 2] R) (argE [(.slice l_a l_l l_c)]) w = S16 l_a l_l l_c w R := by kernel_rfl
/-- A call of 'carfax/carfaxlaw15.few', by its condition. -/
theorem S16_calls {l_a : Option Addr} {l_l : Nat} {l_c : Nat} {w : World} {R : Value → World → Prop} (hS : S16 l_a l_l l_c w R) : Ret Try.prog 16 [(.slice l_a l_l l_c)] w R :=
  R_calls (C := ⟨cal, S16_nx⟩) cal_ok follows Try.func16 (c := Try.f16.body.getD .skip) (res := #[.tmp 2]) (n := 35) (by kernel_rfl) (by kernel_rfl) (by kernel_rfl) (by kernel_rfl) ((S16_eq l_a l_l l_c w R).mpr hS)

def S17_ann (p : List Nat) : Option LA :=
  none

def S17_nx (t : Nat) : Option (TypeId × TypeId) := none

def S17 (d : Option Addr) (a_0 : Int) (a_1_a : Option Addr) (a_1_l : Nat) (a_1_c : Nat) (a_2 : Int) (w : World) (R : Value → World → Prop) : Prop :=
  ∃ (t6 : Int),
  (w.alloc (.cells ⟨[(.int .u8 a_0), (.slice a_1_a a_1_l a_1_c), (.int .i64 a_2)]⟩ 36)).cell? ⟨w.heap.size, 0, none⟩ = some (.int .u8 t6) ∧
  (7 : Int) ≠ 0 ∧
  cond (decide (((Int.tmod t6 7) : Int) = 0)) (
    ∃ (t12_a : Option Addr) (t12_l : Nat) (t12_c : Nat),
    (w.alloc (.cells ⟨[(.int .u8 a_0), (.slice a_1_a a_1_l a_1_c), (.int .i64 a_2)]⟩ 36)).cell? ⟨w.heap.size, 1, none⟩ = some (.slice t12_a t12_l t12_c) ∧
    Calls Try.prog 11 ⟨[(.pointer d), (.slice t12_a t12_l t12_c)]⟩ (w.alloc (.cells ⟨[(.int .u8 a_0), (.slice a_1_a a_1_l a_1_c), (.int .i64 a_2)]⟩ 36)) fun e w_ =>
      ∃ (t13 : Int),
      e = .returned (.int .i64 t13) ∧
      R (.int .i64 t13) w_
  ) (
    cond (decide (((Int.tmod t6 7) : Int) = 1)) (
      Calls Try.prog 21 ⟨[(.pointer d)]⟩ (w.alloc (.cells ⟨[(.int .u8 a_0), (.slice a_1_a a_1_l a_1_c), (.int .i64 a_2)]⟩ 36)) fun e w__1 =>
        ∃ (t17 : Int),
        e = .returned (.int .i64 t17) ∧
        R (.int .i64 t17) w__1
    ) (
      cond (decide (((Int.tmod t6 7) : Int) = 2)) (
        ∃ (t22 : Int),
        (w.alloc (.cells ⟨[(.int .u8 a_0), (.slice a_1_a a_1_l a_1_c), (.int .i64 a_2)]⟩ 36)).cell? ⟨w.heap.size, 2, none⟩ = some (.int .i64 t22) ∧
        Calls Try.prog 25 ⟨[(.pointer d), (.int .i64 t22)]⟩ (w.alloc (.cells ⟨[(.int .u8 a_0), (.slice a_1_a a_1_l a_1_c), (.int .i64 a_2)]⟩ 36)) fun e w__2 =>
          ∃ (t23 : Int),
          e = .returned (.int .i64 t23) ∧
          R (.int .i64 t23) w__2
      ) (
        cond (decide (((Int.tmod t6 7) : Int) = 3)) (
          ∃ (t28 : Int),
          (w.alloc (.cells ⟨[(.int .u8 a_0), (.slice a_1_a a_1_l a_1_c), (.int .i64 a_2)]⟩ 36)).cell? ⟨w.heap.size, 2, none⟩ = some (.int .i64 t28) ∧
          Calls Try.prog 10 ⟨[(.pointer d), (.int .i64 t28)]⟩ (w.alloc (.cells ⟨[(.int .u8 a_0), (.slice a_1_a a_1_l a_1_c), (.int .i64 a_2)]⟩ 36)) fun e w__3 =>
            e = .returned (.tuple ⟨[]⟩) ∧
            R (.int .i64 0) w__3
        ) (
          cond (decide (((Int.tmod t6 7) : Int) = 4)) (
            ∃ (t34 : Int),
            (w.alloc (.cells ⟨[(.int .u8 a_0), (.slice a_1_a a_1_l a_1_c), (.int .i64 a_2)]⟩ 36)).cell? ⟨w.heap.size, 2, none⟩ = some (.int .i64 t34) ∧
            Calls Try.prog 13 ⟨[(.pointer d), (.int .i64 t34)]⟩ (w.alloc (.cells ⟨[(.int .u8 a_0), (.slice a_1_a a_1_l a_1_c), (.int .i64 a_2)]⟩ 36)) fun e w__4 =>
              e = .returned (.tuple ⟨[]⟩) ∧
              R (.int .i64 0) w__4
          ) (
            cond (decide (((Int.tmod t6 7) : Int) = 6)) (
              ∃ (t39_a : Option Addr) (t39_l : Nat) (t39_c : Nat) (w__5 : World),
              (Instr.makeSlice 28 (.int .i64 400000) (.int .i64 400000)).run Try.prog (w.alloc (.cells ⟨[(.int .u8 a_0), (.slice a_1_a a_1_l a_1_c), (.int .i64 a_2)]⟩ 36)) = .ok (.slice t39_a t39_l t39_c) w__5 ∧
              Calls Try.prog 11 ⟨[(.pointer d), (.slice t39_a t39_l t39_c)]⟩ w__5 fun e w__6 =>
                ∃ (t40 : Int),
                e = .returned (.int .i64 t40) ∧
                R (.int .i64 t40) w__6
            ) (
              R (.int .i64 0) (w.alloc (.cells ⟨[(.int .u8 a_0), (.slice a_1_a a_1_l a_1_c), (.int .i64 a_2)]⟩ 36))
            )
          )
        )
      )
    )
  )

theorem S17_eq (d : Option Addr) (a_0 : Int) (a_1_a : Option Addr) (a_1_l : Nat) (a_1_c : Nat) (a_2 : Int) (w : World) (R : Value → World → Prop) : Eng.R Try.prog ⟨cal, S17_nx⟩ 41 S17_ann [] (Try.f17.body.getD .skip) (bodyQ Try.prog #[.tmp 4] R) (argE [(.pointer d), (.agg ⟨[(.int .u8 a_0), (.slice a_1_a a_1_l a_1_c), (.int .i64 a_2)]⟩)]) w = S17 d a_0 a_1_a a_1_l a_1_c a_2 w R := by kernel_rfl
/-- A call of 'carfax/carfaxlaw15.does', by its condition. -/
theorem S17_calls {d : Option Addr} {a_0 : Int} {a_1_a : Option Addr} {a_1_l : Nat} {a_1_c : Nat} {a_2 : Int} {w : World} {R : Value → World → Prop} (hS : S17 d a_0 a_1_a a_1_l a_1_c a_2 w R) : Ret Try.prog 17 [(.pointer d), (.agg ⟨[(.int .u8 a_0), (.slice a_1_a a_1_l a_1_c), (.int .i64 a_2)]⟩)] w R :=
  R_calls (C := ⟨cal, S17_nx⟩) cal_ok follows Try.func17 (c := Try.f17.body.getD .skip) (res := #[.tmp 4]) (n := 41) (by kernel_rfl) (by kernel_rfl) (by kernel_rfl) (by kernel_rfl) ((S17_eq d a_0 a_1_a a_1_l a_1_c a_2 w R).mpr hS)

def S18_ann (p : List Nat) : Option LA :=
  none

def S18_nx (t : Nat) : Option (TypeId × TypeId) := none

def S18 (s_ : ByteArray) (prefix_ : ByteArray) (w : World) (R : Value → World → Prop) : Prop :=
  Calls Try.prog 26 ⟨[(.string s_), (.string prefix_)]⟩ w fun e w_ =>
    ∃ (t7 : Bool),
    e = .returned (.bool t7) ∧
    R (.bool t7) w_

theorem S18_eq (s_ : ByteArray) (prefix_ : ByteArray) (w : World) (R : Value → World → Prop) : Eng.R Try.prog ⟨cal, S18_nx⟩ 8 S18_ann [] (Try.f18.body.getD .skip) (bodyQ Try.prog #[.tmp 4] R) (argE [(.string s_), (.string prefix_)]) w = S18 s_ prefix_ w R := by kernel_rfl
/-- A call of 'strings.HasPrefix', by its condition. -/
theorem S18_calls {s_ : ByteArray} {prefix_ : ByteArray} {w : World} {R : Value → World → Prop} (hS : S18 s_ prefix_ w R) : Ret Try.prog 18 [(.string s_), (.string prefix_)] w R :=
  R_calls (C := ⟨cal, S18_nx⟩) cal_ok follows Try.func18 (c := Try.f18.body.getD .skip) (res := #[.tmp 4]) (n := 8) (by kernel_rfl) (by kernel_rfl) (by kernel_rfl) (by kernel_rfl) ((S18_eq s_ prefix_ w R).mpr hS)

def S19_ann (p : List Nat) : Option LA :=
  none

def S19_nx (t : Nat) : Option (TypeId × TypeId) := none

def S19 (w : World) (R : Value → World → Prop) : Prop :=
  R (.pointer (some ⟨w.heap.size, 0, none⟩)) (w.alloc (.cells ⟨[(.string ⟨#[]⟩), (.int .i64 0), (.bool false), (.int .i64 (-1))]⟩ 47))

theorem S19_eq (w : World) (R : Value → World → Prop) : Eng.R Try.prog ⟨cal, S19_nx⟩ 3 S19_ann [] (Try.f19.body.getD .skip) (bodyQ Try.prog #[.tmp 0] R) (argE []) w = S19  w R := by kernel_rfl
/-- A call of 'carfax/carfaxref15.New', by its condition. -/
theorem S19_calls {w : World} {R : Value → World → Prop} (hS : S19  w R) : Ret Try.prog 19 [] w R :=
  R_calls (C := ⟨cal, S19_nx⟩) cal_ok follows Try.func19 (c := Try.f19.body.getD .skip) (res := #[.tmp 0]) (n := 3) (by kernel_rfl) (by kernel_rfl) (by kernel_rfl) (by kernel_rfl) ((S19_eq  w R).mpr hS)

def S20_ann (p : List Nat) : Option LA :=
  none

def S20_nx (t : Nat) : Option (TypeId × TypeId) := none

def S20_k0 (d : Option Addr) (w : World) (R : Value → World → Prop) : Prop :=
  ∃ (t7 : Addr),
  d = some t7 ∧
  ∃ (t8_0_a : Option Addr) (t8_0_l : Nat) (t8_0_c : Nat),
  w.cell? t7 = some (.slice t8_0_a t8_0_l t8_0_c) ∧
  ∃ (t8_1 : Int),
  w.cell? (t7.add 1) = some (.int .i64 t8_1) ∧
  ∃ (t8_2 : Bool),
  w.cell? (t7.add 2) = some (.bool t8_2) ∧
  ∃ (t8_3 : Int),
  w.cell? (t7.add 3) = some (.int .i64 t8_3) ∧
  (∃ u, (w.alloc (.cells ⟨[(.slice none 0 0), (.int .i64 0), (.bool false), (.int .i64 0)]⟩ 51)).cell? ⟨w.heap.size, 0, none⟩ = some u) ∧
  (w.alloc (.cells ⟨[(.slice none 0 0), (.int .i64 0), (.bool false), (.int .i64 0)]⟩ 51)).frozen? ⟨w.heap.size, 0, none⟩ = false ∧
  (∃ u, ((w.alloc (.cells ⟨[(.slice none 0 0), (.int .i64 0), (.bool false), (.int .i64 0)]⟩ 51)).setCell ⟨w.heap.size, 0, none⟩ (.slice t8_0_a t8_0_l t8_0_c)).cell? ⟨w.heap.size, 1, none⟩ = some u) ∧
  ((w.alloc (.cells ⟨[(.slice none 0 0), (.int .i64 0), (.bool false), (.int .i64 0)]⟩ 51)).setCell ⟨w.heap.size, 0, none⟩ (.slice t8_0_a t8_0_l t8_0_c)).frozen? ⟨w.heap.size, 1, none⟩ = false ∧
  (∃ u, (((w.alloc (.cells ⟨[(.slice none 0 0), (.int .i64 0), (.bool false), (.int .i64 0)]⟩ 51)).setCell ⟨w.heap.size, 0, none⟩ (.slice t8_0_a t8_0_l t8_0_c)).setCell ⟨w.heap.size, 1, none⟩ (.int .i64 t8_1)).cell? ⟨w.heap.size, 2, none⟩ = some u) ∧
  (((w.alloc (.cells ⟨[(.slice none 0 0), (.int .i64 0), (.bool false), (.int .i64 0)]⟩ 51)).setCell ⟨w.heap.size, 0, none⟩ (.slice t8_0_a t8_0_l t8_0_c)).setCell ⟨w.heap.size, 1, none⟩ (.int .i64 t8_1)).frozen? ⟨w.heap.size, 2, none⟩ = false ∧
  (∃ u, ((((w.alloc (.cells ⟨[(.slice none 0 0), (.int .i64 0), (.bool false), (.int .i64 0)]⟩ 51)).setCell ⟨w.heap.size, 0, none⟩ (.slice t8_0_a t8_0_l t8_0_c)).setCell ⟨w.heap.size, 1, none⟩ (.int .i64 t8_1)).setCell ⟨w.heap.size, 2, none⟩ (.bool t8_2)).cell? ⟨w.heap.size, 3, none⟩ = some u) ∧
  ((((w.alloc (.cells ⟨[(.slice none 0 0), (.int .i64 0), (.bool false), (.int .i64 0)]⟩ 51)).setCell ⟨w.heap.size, 0, none⟩ (.slice t8_0_a t8_0_l t8_0_c)).setCell ⟨w.heap.size, 1, none⟩ (.int .i64 t8_1)).setCell ⟨w.heap.size, 2, none⟩ (.bool t8_2)).frozen? ⟨w.heap.size, 3, none⟩ = false ∧
  ∃ (t10 : Addr),
  d = some t10 ∧
  ∃ (t12_a : Option Addr) (t12_l : Nat) (t12_c : Nat),
  (((((w.alloc (.cells ⟨[(.slice none 0 0), (.int .i64 0), (.bool false), (.int .i64 0)]⟩ 51)).setCell ⟨w.heap.size, 0, none⟩ (.slice t8_0_a t8_0_l t8_0_c)).setCell ⟨w.heap.size, 1, none⟩ (.int .i64 t8_1)).setCell ⟨w.heap.size, 2, none⟩ (.bool t8_2)).setCell ⟨w.heap.size, 3, none⟩ (.int .i64 t8_3)).cell? t10 = some (.slice t12_a t12_l t12_c) ∧
  Calls Try.prog 27 ⟨[(.slice t12_a t12_l t12_c)]⟩ (((((w.alloc (.cells ⟨[(.slice none 0 0), (.int .i64 0), (.bool false), (.int .i64 0)]⟩ 51)).setCell ⟨w.heap.size, 0, none⟩ (.slice t8_0_a t8_0_l t8_0_c)).setCell ⟨w.heap.size, 1, none⟩ (.int .i64 t8_1)).setCell ⟨w.heap.size, 2, none⟩ (.bool t8_2)).setCell ⟨w.heap.size, 3, none⟩ (.int .i64 t8_3)) fun e w_ =>
    ∃ (t13_a : Option Addr) (t13_l : Nat) (t13_c : Nat),
    e = .returned (.slice t13_a t13_l t13_c) ∧
    (∃ u, w_.cell? ⟨w.heap.size, 0, none⟩ = some u) ∧
    w_.frozen? ⟨w.heap.size, 0, none⟩ = false ∧
    R (.pointer (some ⟨w.heap.size, 0, none⟩)) (w_.setCell ⟨w.heap.size, 0, none⟩ (.slice t13_a t13_l t13_c))

def S20 (d : Option Addr) (w : World) (R : Value → World → Prop) : Prop :=
  cond (Option.isNone d) (
    R (.pointer none) w
  ) (
    S20_k0 d w R
  )

theorem S20_eq (d : Option Addr) (w : World) (R : Value → World → Prop) : Eng.R Try.prog ⟨cal, S20_nx⟩ 15 S20_ann [] (Try.f20.body.getD .skip) (bodyQ Try.prog #[.tmp 2] R) (argE [(.pointer d)]) w = S20 d w R := by kernel_rfl
/-- A call of '(*carfax/disk.Disk).Copy', by its condition. -/
theorem S20_calls {d : Option Addr} {w : World} {R : Value → World → Prop} (hS : S20 d w R) : Ret Try.prog 20 [(.pointer d)] w R :=
  R_calls (C := ⟨cal, S20_nx⟩) cal_ok follows Try.func20 (c := Try.f20.body.getD .skip) (res := #[.tmp 2]) (n := 15) (by kernel_rfl) (by kernel_rfl) (by kernel_rfl) (by kernel_rfl) ((S20_eq d w R).mpr hS)

def S21_ann (p : List Nat) : Option LA :=
  none

def S21_nx (t : Nat) : Option (TypeId × TypeId) := none

def S21_k0 (d : Option Addr) (w : World) (R : Value → World → Prop) : Prop :=
  ∃ (t11 : Addr),
  d = some t11 ∧
  ∃ (t13_a : Option Addr) (t13_l : Nat) (t13_c : Nat),
  w.cell? t11 = some (.slice t13_a t13_l t13_c) ∧
  ∃ (t15 : Addr),
  d = some t15 ∧
  (∃ u, w.cell? (t15.add 1) = some u) ∧
  w.frozen? (t15.add 1) = false ∧
  R (.int .i64 0) (w.setCell (t15.add 1) (.int .i64 ((t13_l : Nat) : Int)))

def S21 (d : Option Addr) (w : World) (R : Value → World → Prop) : Prop :=
  Calls Try.prog 24 ⟨[(.pointer d)]⟩ w fun e w_ =>
    ∃ (t5 : Int),
    e = .returned (.int .i64 t5) ∧
    cond (!decide ((t5 : Int) = 0)) (
      R (.int .i64 t5) w_
    ) (
      S21_k0 d w_ R
    )

theorem S21_eq (d : Option Addr) (w : World) (R : Value → World → Prop) : Eng.R Try.prog ⟨cal, S21_nx⟩ 17 S21_ann [] (Try.f21.body.getD .skip) (bodyQ Try.prog #[.tmp 2] R) (argE [(.pointer d)]) w = S21 d w R := by kernel_rfl
/-- A call of '(*carfax/disk.Disk).Sync', by its condition. -/
theorem S21_calls {d : Option Addr} {w : World} {R : Value → World → Prop} (hS : S21 d w R) : Ret Try.prog 21 [(.pointer d)] w R :=
  R_calls (C := ⟨cal, S21_nx⟩) cal_ok follows Try.func21 (c := Try.f21.body.getD .skip) (res := #[.tmp 2]) (n := 17) (by kernel_rfl) (by kernel_rfl) (by kernel_rfl) (by kernel_rfl) ((S21_eq d w R).mpr hS)

def S22_ann (p : List Nat) : Option LA :=
  none

def S22_nx (t : Nat) : Option (TypeId × TypeId) := none

def S22 (d : Option Addr) (a_0 : Int) (a_1_a : Option Addr) (a_1_l : Nat) (a_1_c : Nat) (a_2 : Int) (w : World) (R : Value → World → Prop) : Prop :=
  ∃ (t6 : Int),
  (w.alloc (.cells ⟨[(.int .u8 a_0), (.slice a_1_a a_1_l a_1_c), (.int .i64 a_2)]⟩ 36)).cell? ⟨w.heap.size, 0, none⟩ = some (.int .u8 t6) ∧
  (7 : Int) ≠ 0 ∧
  cond (decide (((Int.tmod t6 7) : Int) = 0)) (
    ∃ (t12_a : Option Addr) (t12_l : Nat) (t12_c : Nat),
    (w.alloc (.cells ⟨[(.int .u8 a_0), (.slice a_1_a a_1_l a_1_c), (.int .i64 a_2)]⟩ 36)).cell? ⟨w.heap.size, 1, none⟩ = some (.slice t12_a t12_l t12_c) ∧
    ∃ (t13 : ByteArray) (w_ : World),
    (convert 28 9 (.slice t12_a t12_l t12_c)).run Try.prog (w.alloc (.cells ⟨[(.int .u8 a_0), (.slice a_1_a a_1_l a_1_c), (.int .i64 a_2)]⟩ 36)) = .ok (.string t13) w_ ∧
    Calls Try.prog 28 ⟨[(.pointer d), (.string t13)]⟩ w_ fun e w__1 =>
      ∃ (t14 : Int),
      e = .returned (.int .i64 t14) ∧
      R (.int .i64 t14) w__1
  ) (
    cond (decide (((Int.tmod t6 7) : Int) = 1)) (
      Calls Try.prog 29 ⟨[(.pointer d)]⟩ (w.alloc (.cells ⟨[(.int .u8 a_0), (.slice a_1_a a_1_l a_1_c), (.int .i64 a_2)]⟩ 36)) fun e w__2 =>
        ∃ (t18 : Int),
        e = .returned (.int .i64 t18) ∧
        R (.int .i64 t18) w__2
    ) (
      cond (decide (((Int.tmod t6 7) : Int) = 2)) (
        ∃ (t23 : Int),
        (w.alloc (.cells ⟨[(.int .u8 a_0), (.slice a_1_a a_1_l a_1_c), (.int .i64 a_2)]⟩ 36)).cell? ⟨w.heap.size, 2, none⟩ = some (.int .i64 t23) ∧
        Calls Try.prog 30 ⟨[(.pointer d), (.int .i64 t23)]⟩ (w.alloc (.cells ⟨[(.int .u8 a_0), (.slice a_1_a a_1_l a_1_c), (.int .i64 a_2)]⟩ 36)) fun e w__3 =>
          ∃ (t24 : Int),
          e = .returned (.int .i64 t24) ∧
          R (.int .i64 t24) w__3
      ) (
        cond (decide (((Int.tmod t6 7) : Int) = 3)) (
          ∃ (t29 : Int),
          (w.alloc (.cells ⟨[(.int .u8 a_0), (.slice a_1_a a_1_l a_1_c), (.int .i64 a_2)]⟩ 36)).cell? ⟨w.heap.size, 2, none⟩ = some (.int .i64 t29) ∧
          Calls Try.prog 31 ⟨[(.pointer d), (.int .i64 t29)]⟩ (w.alloc (.cells ⟨[(.int .u8 a_0), (.slice a_1_a a_1_l a_1_c), (.int .i64 a_2)]⟩ 36)) fun e w__4 =>
            e = .returned (.tuple ⟨[]⟩) ∧
            R (.int .i64 0) w__4
        ) (
          cond (decide (((Int.tmod t6 7) : Int) = 4)) (
            ∃ (t35 : Int),
            (w.alloc (.cells ⟨[(.int .u8 a_0), (.slice a_1_a a_1_l a_1_c), (.int .i64 a_2)]⟩ 36)).cell? ⟨w.heap.size, 2, none⟩ = some (.int .i64 t35) ∧
            Calls Try.prog 32 ⟨[(.pointer d), (.int .i64 t35)]⟩ (w.alloc (.cells ⟨[(.int .u8 a_0), (.slice a_1_a a_1_l a_1_c), (.int .i64 a_2)]⟩ 36)) fun e w__5 =>
              e = .returned (.tuple ⟨[]⟩) ∧
              R (.int .i64 0) w__5
          ) (
            cond (decide (((Int.tmod t6 7) : Int) = 6)) (
              ∃ (t40_a : Option Addr) (t40_l : Nat) (t40_c : Nat) (w__6 : World),
              (Instr.makeSlice 28 (.int .i64 400000) (.int .i64 400000)).run Try.prog (w.alloc (.cells ⟨[(.int .u8 a_0), (.slice a_1_a a_1_l a_1_c), (.int .i64 a_2)]⟩ 36)) = .ok (.slice t40_a t40_l t40_c) w__6 ∧
              ∃ (t41 : ByteArray) (w__7 : World),
              (convert 28 9 (.slice t40_a t40_l t40_c)).run Try.prog w__6 = .ok (.string t41) w__7 ∧
              Calls Try.prog 28 ⟨[(.pointer d), (.string t41)]⟩ w__7 fun e w__8 =>
                ∃ (t42 : Int),
                e = .returned (.int .i64 t42) ∧
                R (.int .i64 t42) w__8
            ) (
              R (.int .i64 0) (w.alloc (.cells ⟨[(.int .u8 a_0), (.slice a_1_a a_1_l a_1_c), (.int .i64 a_2)]⟩ 36))
            )
          )
        )
      )
    )
  )

theorem S22_eq (d : Option Addr) (a_0 : Int) (a_1_a : Option Addr) (a_1_l : Nat) (a_1_c : Nat) (a_2 : Int) (w : World) (R : Value → World → Prop) : Eng.R Try.prog ⟨cal, S22_nx⟩ 43 S22_ann [] (Try.f22.body.getD .skip) (bodyQ Try.prog #[.tmp 4] R) (argE [(.pointer d), (.agg ⟨[(.int .u8 a_0), (.slice a_1_a a_1_l a_1_c), (.int .i64 a_2)]⟩)]) w = S22 d a_0 a_1_a a_1_l a_1_c a_2 w R := by kernel_rfl
/-- A call of 'carfax/carfaxlaw15.model', by its condition. -/
theorem S22_calls {d : Option Addr} {a_0 : Int} {a_1_a : Option Addr} {a_1_l : Nat} {a_1_c : Nat} {a_2 : Int} {w : World} {R : Value → World → Prop} (hS : S22 d a_0 a_1_a a_1_l a_1_c a_2 w R) : Ret Try.prog 22 [(.pointer d), (.agg ⟨[(.int .u8 a_0), (.slice a_1_a a_1_l a_1_c), (.int .i64 a_2)]⟩)] w R :=
  R_calls (C := ⟨cal, S22_nx⟩) cal_ok follows Try.func22 (c := Try.f22.body.getD .skip) (res := #[.tmp 4]) (n := 43) (by kernel_rfl) (by kernel_rfl) (by kernel_rfl) (by kernel_rfl) ((S22_eq d a_0 a_1_a a_1_l a_1_c a_2 w R).mpr hS)

def S23_ann (p : List Nat) : Option LA :=
  none

def S23_nx (t : Nat) : Option (TypeId × TypeId) := none

def S23_k0 (d : Option Addr) (w : World) (R : Value → World → Prop) : Prop :=
  ∃ (t9 : Addr),
  d = some t9 ∧
  ∃ (t11 : ByteArray),
  w.cell? t9 = some (.string t11) ∧
  R (.tuple ⟨[(.string t11), (.int .i64 0)]⟩) w

def S23 (d : Option Addr) (w : World) (R : Value → World → Prop) : Prop :=
  ∃ (t5 : Addr),
  d = some t5 ∧
  ∃ (t7 : Bool),
  w.cell? (t5.add 2) = some (.bool t7) ∧
  cond t7 (
    R (.tuple ⟨[(.string ⟨#[]⟩), (.int .i64 5)]⟩) w
  ) (
    S23_k0 d w R
  )

theorem S23_eq (d : Option Addr) (w : World) (R : Value → World → Prop) : Eng.R Try.prog ⟨cal, S23_nx⟩ 12 S23_ann [] (Try.f23.body.getD .skip) (bodyQ Try.prog #[.tmp 2, .tmp 3] R) (argE [(.pointer d)]) w = S23 d w R := by kernel_rfl
/-- A call of '(*carfax/carfaxref15.Disk).Read', by its condition. -/
theorem S23_calls {d : Option Addr} {w : World} {R : Value → World → Prop} (hS : S23 d w R) : Ret Try.prog 23 [(.pointer d)] w R :=
  R_calls (C := ⟨cal, S23_nx⟩) cal_ok follows Try.func23 (c := Try.f23.body.getD .skip) (res := #[.tmp 2, .tmp 3]) (n := 12) (by kernel_rfl) (by kernel_rfl) (by kernel_rfl) (by kernel_rfl) ((S23_eq d w R).mpr hS)

def S24_ann (p : List Nat) : Option LA :=
  none

def S24_nx (t : Nat) : Option (TypeId × TypeId) := none

def S24 (d : Option Addr) (w : World) (R : Value → World → Prop) : Prop :=
  cond (Option.isNone d) (
    R (.int .i64 2) w
  ) (
    ∃ (t8 : Addr),
    d = some t8 ∧
    ∃ (t10 : Bool),
    w.cell? (t8.add 2) = some (.bool t10) ∧
    cond t10 (
      R (.int .i64 5) w
    ) (
      ∃ (t13 : Addr),
      d = some t13 ∧
      ∃ (t15 : Int),
      w.cell? (t13.add 3) = some (.int .i64 t15) ∧
      cond (decide ((t15 : Int) = 0)) (
        ∃ (t19 : Addr),
        d = some t19 ∧
        (∃ u, w.cell? (t19.add 2) = some u) ∧
        w.frozen? (t19.add 2) = false ∧
        ∃ (t21 : Addr),
        d = some t21 ∧
        (∃ u, (w.setCell (t19.add 2) (.bool true)).cell? (t21.add 3) = some u) ∧
        (w.setCell (t19.add 2) (.bool true)).frozen? (t21.add 3) = false ∧
        R (.int .i64 5) ((w.setCell (t19.add 2) (.bool true)).setCell (t21.add 3) (.int .i64 (-1)))
      ) (
        ∃ (t25 : Addr),
        d = some t25 ∧
        ∃ (t27 : Int),
        w.cell? (t25.add 3) = some (.int .i64 t27) ∧
        cond (decide ((0 : Int) < t27)) (
          ∃ (t30 : Addr),
          d = some t30 ∧
          ∃ (t32 : Int),
          w.cell? (t30.add 3) = some (.int .i64 t32) ∧
          ∃ (t34 : Addr),
          d = some t34 ∧
          (∃ u, w.cell? (t34.add 3) = some u) ∧
          w.frozen? (t34.add 3) = false ∧
          R (.int .i64 0) (w.setCell (t34.add 3) (.int .i64 (IntKind.i64.wrap (t32 - 1))))
        ) (
          R (.int .i64 0) w
        )
      )
    )
  )

theorem S24_eq (d : Option Addr) (w : World) (R : Value → World → Prop) : Eng.R Try.prog ⟨cal, S24_nx⟩ 36 S24_ann [] (Try.f24.body.getD .skip) (bodyQ Try.prog #[.tmp 2] R) (argE [(.pointer d)]) w = S24 d w R := by kernel_rfl
/-- A call of '(*carfax/disk.Disk).power', by its condition. -/
theorem S24_calls {d : Option Addr} {w : World} {R : Value → World → Prop} (hS : S24 d w R) : Ret Try.prog 24 [(.pointer d)] w R :=
  R_calls (C := ⟨cal, S24_nx⟩) cal_ok follows Try.func24 (c := Try.f24.body.getD .skip) (res := #[.tmp 2]) (n := 36) (by kernel_rfl) (by kernel_rfl) (by kernel_rfl) (by kernel_rfl) ((S24_eq d w R).mpr hS)

def S25_ann (p : List Nat) : Option LA :=
  none

def S25_nx (t : Nat) : Option (TypeId × TypeId) := none

def S25_k2 (d : Option Addr) (n_ : Int) (w : World) (R : Value → World → Prop) : Prop :=
  ∃ (t25 : Addr),
  d = some t25 ∧
  ∃ (t27_a : Option Addr) (t27_l : Nat) (t27_c : Nat),
  w.cell? t25 = some (.slice t27_a t27_l t27_c) ∧
  0 ≤ (n_ : Int) ∧
  (n_ : Int) ≤ ((t27_c : Nat) : Int) ∧
  ∃ (t31 : Addr),
  d = some t31 ∧
  (∃ u, w.cell? t31 = some u) ∧
  w.frozen? t31 = false ∧
  ∃ (t33 : Addr),
  d = some t33 ∧
  (∃ u, (w.setCell t31 (.slice (slAddr t27_a t27_c 0 1) ((Int.toNat n_) - 0) (t27_c - 0))).cell? (t33.add 1) = some u) ∧
  (w.setCell t31 (.slice (slAddr t27_a t27_c 0 1) ((Int.toNat n_) - 0) (t27_c - 0))).frozen? (t33.add 1) = false ∧
  R (.int .i64 0) ((w.setCell t31 (.slice (slAddr t27_a t27_c 0 1) ((Int.toNat n_) - 0) (t27_c - 0))).setCell (t33.add 1) (.int .i64 n_))

def S25_k1 (d : Option Addr) (n_ : Int) (t21 : Bool) (w : World) (R : Value → World → Prop) : Prop :=
  cond t21 (
    R (.int .i64 1) w
  ) (
    S25_k2 d n_ w R
  )

def S25_k0 (d : Option Addr) (n_ : Int) (w : World) (R : Value → World → Prop) : Prop :=
  cond (decide ((n_ : Int) < 0)) (
    S25_k1 d n_ true w R
  ) (
    ∃ (t16 : Addr),
    d = some t16 ∧
    ∃ (t18_a : Option Addr) (t18_l : Nat) (t18_c : Nat),
    w.cell? t16 = some (.slice t18_a t18_l t18_c) ∧
    S25_k1 d n_ (decide ((((t18_l : Nat) : Int) : Int) < n_)) w R
  )

def S25 (d : Option Addr) (n_ : Int) (w : World) (R : Value → World → Prop) : Prop :=
  Calls Try.prog 24 ⟨[(.pointer d)]⟩ w fun e w_ =>
    ∃ (t7 : Int),
    e = .returned (.int .i64 t7) ∧
    cond (!decide ((t7 : Int) = 0)) (
      R (.int .i64 t7) w_
    ) (
      S25_k0 d n_ w_ R
    )

theorem S25_eq (d : Option Addr) (n_ : Int) (w : World) (R : Value → World → Prop) : Eng.R Try.prog ⟨cal, S25_nx⟩ 35 S25_ann [] (Try.f25.body.getD .skip) (bodyQ Try.prog #[.tmp 4] R) (argE [(.pointer d), (.int .i64 n_)]) w = S25 d n_ w R := by kernel_rfl
/-- A call of '(*carfax/disk.Disk).Cutoff', by its condition. -/
theorem S25_calls {d : Option Addr} {n_ : Int} {w : World} {R : Value → World → Prop} (hS : S25 d n_ w R) : Ret Try.prog 25 [(.pointer d), (.int .i64 n_)] w R :=
  R_calls (C := ⟨cal, S25_nx⟩) cal_ok follows Try.func25 (c := Try.f25.body.getD .skip) (res := #[.tmp 4]) (n := 35) (by kernel_rfl) (by kernel_rfl) (by kernel_rfl) (by kernel_rfl) ((S25_eq d n_ w R).mpr hS)

def S26_ann (p : List Nat) : Option LA :=
  none

def S26_nx (t : Nat) : Option (TypeId × TypeId) := none

def S26 (s_ : ByteArray) (prefix_ : ByteArray) (w : World) (R : Value → World → Prop) : Prop :=
  cond (decide ((((ByteArray.size prefix_ : Nat) : Int) : Int) ≤ ((ByteArray.size s_ : Nat) : Int))) (
    0 ≤ (((ByteArray.size prefix_ : Nat) : Int) : Int) ∧
    (((ByteArray.size prefix_ : Nat) : Int) : Int) ≤ (((ByteArray.size s_) : Nat) : Int) ∧
    R (.bool (decide (((ByteArray.extract s_ 0 (Int.toNat ((ByteArray.size prefix_ : Nat) : Int))) : ByteArray) = prefix_))) w
  ) (
    R (.bool false) w
  )

theorem S26_eq (s_ : ByteArray) (prefix_ : ByteArray) (w : World) (R : Value → World → Prop) : Eng.R Try.prog ⟨cal, S26_nx⟩ 18 S26_ann [] (Try.f26.body.getD .skip) (bodyQ Try.prog #[.tmp 4] R) (argE [(.string s_), (.string prefix_)]) w = S26 s_ prefix_ w R := by kernel_rfl
/-- A call of 'internal/stringslite.HasPrefix', by its condition. -/
theorem S26_calls {s_ : ByteArray} {prefix_ : ByteArray} {w : World} {R : Value → World → Prop} (hS : S26 s_ prefix_ w R) : Ret Try.prog 26 [(.string s_), (.string prefix_)] w R :=
  R_calls (C := ⟨cal, S26_nx⟩) cal_ok follows Try.func26 (c := Try.f26.body.getD .skip) (res := #[.tmp 4]) (n := 18) (by kernel_rfl) (by kernel_rfl) (by kernel_rfl) (by kernel_rfl) ((S26_eq s_ prefix_ w R).mpr hS)

def S27_ann (p : List Nat) : Option LA :=
  none

def S27_nx (t : Nat) : Option (TypeId × TypeId) := none

def S27_k0 (s_a : Option Addr) (s_l : Nat) (s_c : Nat) (w : World) (R : Value → World → Prop) : Prop :=
  ∃ (t7_a : Option Addr) (t7_l : Nat) (t7_c : Nat) (w_ : World),
  (Builtin.append_ #[28, 28] 28 ⟨[(.slice (some ⟨w.heap.size, 0, none⟩) 0 0), (.slice s_a s_l s_c)]⟩).run Try.prog (w.alloc (.cells ⟨[]⟩ 5)) = .ok (.slice t7_a t7_l t7_c) w_ ∧
  R (.slice t7_a t7_l t7_c) w_

def S27 (s_a : Option Addr) (s_l : Nat) (s_c : Nat) (w : World) (R : Value → World → Prop) : Prop :=
  cond (Option.isNone s_a) (
    R (.slice none 0 0) w
  ) (
    S27_k0 s_a s_l s_c w R
  )

theorem S27_eq (s_a : Option Addr) (s_l : Nat) (s_c : Nat) (w : World) (R : Value → World → Prop) : Eng.R Try.prog ⟨cal, S27_nx⟩ 8 S27_ann [] (Try.f27.body.getD .skip) (bodyQ Try.prog #[.tmp 2] R) (argE [(.slice s_a s_l s_c)]) w = S27 s_a s_l s_c w R := by kernel_rfl
/-- A call of 'slices.Clone[[]byte,byte]', by its condition. -/
theorem S27_calls {s_a : Option Addr} {s_l : Nat} {s_c : Nat} {w : World} {R : Value → World → Prop} (hS : S27 s_a s_l s_c w R) : Ret Try.prog 27 [(.slice s_a s_l s_c)] w R :=
  R_calls (C := ⟨cal, S27_nx⟩) cal_ok follows Try.func27 (c := Try.f27.body.getD .skip) (res := #[.tmp 2]) (n := 8) (by kernel_rfl) (by kernel_rfl) (by kernel_rfl) (by kernel_rfl) ((S27_eq s_a s_l s_c w R).mpr hS)

def S28_ann (p : List Nat) : Option LA :=
  none

def S28_nx (t : Nat) : Option (TypeId × TypeId) := none

def S28_k1 (d : Option Addr) (b : ByteArray) (w : World) (R : Value → World → Prop) : Prop :=
  ∃ (t19 : Addr),
  d = some t19 ∧
  ∃ (t21 : ByteArray),
  w.cell? t19 = some (.string t21) ∧
  ByteArray.size t21 + ByteArray.size b ≤ 9223372036854775807 ∧
  ∃ (t24 : Addr),
  d = some t24 ∧
  (∃ u, w.cell? t24 = some u) ∧
  w.frozen? t24 = false ∧
  R (.int .i64 0) (w.setCell t24 (.string (t21 ++ b)))

def S28_k0 (d : Option Addr) (b : ByteArray) (w : World) (R : Value → World → Prop) : Prop :=
  ∃ (t11 : Addr),
  d = some t11 ∧
  ∃ (t13 : ByteArray),
  w.cell? t11 = some (.string t13) ∧
  cond (decide (((IntKind.i64.wrap (1048576 - ((ByteArray.size t13 : Nat) : Int))) : Int) < ((ByteArray.size b : Nat) : Int))) (
    R (.int .i64 4) w
  ) (
    S28_k1 d b w R
  )

def S28 (d : Option Addr) (b : ByteArray) (w : World) (R : Value → World → Prop) : Prop :=
  Calls Try.prog 33 ⟨[(.pointer d)]⟩ w fun e w_ =>
    ∃ (t6 : Bool),
    e = .returned (.bool t6) ∧
    cond (!t6) (
      R (.int .i64 5) w_
    ) (
      S28_k0 d b w_ R
    )

theorem S28_eq (d : Option Addr) (b : ByteArray) (w : World) (R : Value → World → Prop) : Eng.R Try.prog ⟨cal, S28_nx⟩ 26 S28_ann [] (Try.f28.body.getD .skip) (bodyQ Try.prog #[.tmp 4] R) (argE [(.pointer d), (.string b)]) w = S28 d b w R := by kernel_rfl
/-- A call of '(*carfax/carfaxref15.Disk).Append', by its condition. -/
theorem S28_calls {d : Option Addr} {b : ByteArray} {w : World} {R : Value → World → Prop} (hS : S28 d b w R) : Ret Try.prog 28 [(.pointer d), (.string b)] w R :=
  R_calls (C := ⟨cal, S28_nx⟩) cal_ok follows Try.func28 (c := Try.f28.body.getD .skip) (res := #[.tmp 4]) (n := 26) (by kernel_rfl) (by kernel_rfl) (by kernel_rfl) (by kernel_rfl) ((S28_eq d b w R).mpr hS)

def S29_ann (p : List Nat) : Option LA :=
  none

def S29_nx (t : Nat) : Option (TypeId × TypeId) := none

def S29_k0 (d : Option Addr) (w : World) (R : Value → World → Prop) : Prop :=
  ∃ (t8 : Addr),
  d = some t8 ∧
  ∃ (t10 : ByteArray),
  w.cell? t8 = some (.string t10) ∧
  ∃ (t12 : Addr),
  d = some t12 ∧
  (∃ u, w.cell? (t12.add 1) = some u) ∧
  w.frozen? (t12.add 1) = false ∧
  R (.int .i64 0) (w.setCell (t12.add 1) (.int .i64 ((ByteArray.size t10 : Nat) : Int)))

def S29 (d : Option Addr) (w : World) (R : Value → World → Prop) : Prop :=
  Calls Try.prog 33 ⟨[(.pointer d)]⟩ w fun e w_ =>
    ∃ (t4 : Bool),
    e = .returned (.bool t4) ∧
    cond (!t4) (
      R (.int .i64 5) w_
    ) (
      S29_k0 d w_ R
    )

theorem S29_eq (d : Option Addr) (w : World) (R : Value → World → Prop) : Eng.R Try.prog ⟨cal, S29_nx⟩ 14 S29_ann [] (Try.f29.body.getD .skip) (bodyQ Try.prog #[.tmp 2] R) (argE [(.pointer d)]) w = S29 d w R := by kernel_rfl
/-- A call of '(*carfax/carfaxref15.Disk).Sync', by its condition. -/
theorem S29_calls {d : Option Addr} {w : World} {R : Value → World → Prop} (hS : S29 d w R) : Ret Try.prog 29 [(.pointer d)] w R :=
  R_calls (C := ⟨cal, S29_nx⟩) cal_ok follows Try.func29 (c := Try.f29.body.getD .skip) (res := #[.tmp 2]) (n := 14) (by kernel_rfl) (by kernel_rfl) (by kernel_rfl) (by kernel_rfl) ((S29_eq d w R).mpr hS)

def S30_ann (p : List Nat) : Option LA :=
  none

def S30_nx (t : Nat) : Option (TypeId × TypeId) := none

def S30_k2 (d : Option Addr) (n_ : Int) (w : World) (R : Value → World → Prop) : Prop :=
  ∃ (t21 : Addr),
  d = some t21 ∧
  ∃ (t23 : ByteArray),
  w.cell? t21 = some (.string t23) ∧
  0 ≤ (n_ : Int) ∧
  (n_ : Int) ≤ (((ByteArray.size t23) : Nat) : Int) ∧
  ∃ (t26 : Addr),
  d = some t26 ∧
  (∃ u, w.cell? t26 = some u) ∧
  w.frozen? t26 = false ∧
  ∃ (t30 : Addr),
  d = some t30 ∧
  (∃ u, (w.setCell t26 (.string (ByteArray.extract t23 0 (Int.toNat n_)))).cell? (t30.add 1) = some u) ∧
  (w.setCell t26 (.string (ByteArray.extract t23 0 (Int.toNat n_)))).frozen? (t30.add 1) = false ∧
  R (.int .i64 0) ((w.setCell t26 (.string (ByteArray.extract t23 0 (Int.toNat n_)))).setCell (t30.add 1) (.int .i64 n_))

def S30_k1 (d : Option Addr) (n_ : Int) (t18 : Bool) (w : World) (R : Value → World → Prop) : Prop :=
  cond t18 (
    R (.int .i64 1) w
  ) (
    S30_k2 d n_ w R
  )

def S30_k0 (d : Option Addr) (n_ : Int) (w : World) (R : Value → World → Prop) : Prop :=
  cond (decide ((n_ : Int) < 0)) (
    S30_k1 d n_ true w R
  ) (
    ∃ (t13 : Addr),
    d = some t13 ∧
    ∃ (t15 : ByteArray),
    w.cell? t13 = some (.string t15) ∧
    S30_k1 d n_ (decide ((((ByteArray.size t15 : Nat) : Int) : Int) < n_)) w R
  )

def S30 (d : Option Addr) (n_ : Int) (w : World) (R : Value → World → Prop) : Prop :=
  Calls Try.prog 33 ⟨[(.pointer d)]⟩ w fun e w_ =>
    ∃ (t6 : Bool),
    e = .returned (.bool t6) ∧
    cond (!t6) (
      R (.int .i64 5) w_
    ) (
      S30_k0 d n_ w_ R
    )

theorem S30_eq (d : Option Addr) (n_ : Int) (w : World) (R : Value → World → Prop) : Eng.R Try.prog ⟨cal, S30_nx⟩ 32 S30_ann [] (Try.f30.body.getD .skip) (bodyQ Try.prog #[.tmp 4] R) (argE [(.pointer d), (.int .i64 n_)]) w = S30 d n_ w R := by kernel_rfl
/-- A call of '(*carfax/carfaxref15.Disk).Cutoff', by its condition. -/
theorem S30_calls {d : Option Addr} {n_ : Int} {w : World} {R : Value → World → Prop} (hS : S30 d n_ w R) : Ret Try.prog 30 [(.pointer d), (.int .i64 n_)] w R :=
  R_calls (C := ⟨cal, S30_nx⟩) cal_ok follows Try.func30 (c := Try.f30.body.getD .skip) (res := #[.tmp 4]) (n := 32) (by kernel_rfl) (by kernel_rfl) (by kernel_rfl) (by kernel_rfl) ((S30_eq d n_ w R).mpr hS)

def S31_ann (p : List Nat) : Option LA :=
  none

def S31_nx (t : Nat) : Option (TypeId × TypeId) := none

def S31 (d : Option Addr) (after : Int) (w : World) (R : Value → World → Prop) : Prop :=
  ∃ (t5 : Addr),
  d = some t5 ∧
  ∃ (t7 : Bool),
  w.cell? (t5.add 2) = some (.bool t7) ∧
  cond (!t7) (
    ∃ (t12 : Addr),
    d = some t12 ∧
    (∃ u, w.cell? (t12.add 3) = some u) ∧
    w.frozen? (t12.add 3) = false ∧
    R (.tuple ⟨[]⟩) (w.setCell (t12.add 3) (.int .i64 (if (-1) > after then (-1) else after)))
  ) (
    R (.tuple ⟨[]⟩) w
  )

theorem S31_eq (d : Option Addr) (after : Int) (w : World) (R : Value → World → Prop) : Eng.R Try.prog ⟨cal, S31_nx⟩ 14 S31_ann [] (Try.f31.body.getD .skip) (bodyQ Try.prog #[] R) (argE [(.pointer d), (.int .i64 after)]) w = S31 d after w R := by kernel_rfl
/-- A call of '(*carfax/carfaxref15.Disk).Cut', by its condition. -/
theorem S31_calls {d : Option Addr} {after : Int} {w : World} {R : Value → World → Prop} (hS : S31 d after w R) : Ret Try.prog 31 [(.pointer d), (.int .i64 after)] w R :=
  R_calls (C := ⟨cal, S31_nx⟩) cal_ok follows Try.func31 (c := Try.f31.body.getD .skip) (res := #[]) (n := 14) (by kernel_rfl) (by kernel_rfl) (by kernel_rfl) (by kernel_rfl) ((S31_eq d after w R).mpr hS)

def S32_ann (p : List Nat) : Option LA :=
  none

def S32_nx (t : Nat) : Option (TypeId × TypeId) := none

def S32_k1 (d : Option Addr) (w : World) (R : Value → World → Prop) : Prop :=
  ∃ (t34 : Addr),
  d = some t34 ∧
  ∃ (t36 : ByteArray),
  w.cell? t34 = some (.string t36) ∧
  ∃ (t38 : Addr),
  d = some t38 ∧
  (∃ u, w.cell? (t38.add 1) = some u) ∧
  w.frozen? (t38.add 1) = false ∧
  ∃ (t41 : Addr),
  d = some t41 ∧
  (∃ u, (w.setCell (t38.add 1) (.int .i64 ((ByteArray.size t36 : Nat) : Int))).cell? (t41.add 2) = some u) ∧
  (w.setCell (t38.add 1) (.int .i64 ((ByteArray.size t36 : Nat) : Int))).frozen? (t41.add 2) = false ∧
  ∃ (t44 : Addr),
  d = some t44 ∧
  (∃ u, ((w.setCell (t38.add 1) (.int .i64 ((ByteArray.size t36 : Nat) : Int))).setCell (t41.add 2) (.bool false)).cell? (t44.add 3) = some u) ∧
  ((w.setCell (t38.add 1) (.int .i64 ((ByteArray.size t36 : Nat) : Int))).setCell (t41.add 2) (.bool false)).frozen? (t44.add 3) = false ∧
  R (.tuple ⟨[]⟩) (((w.setCell (t38.add 1) (.int .i64 ((ByteArray.size t36 : Nat) : Int))).setCell (t41.add 2) (.bool false)).setCell (t44.add 3) (.int .i64 (-1)))

def S32_k0 (d : Option Addr) (n_ : Int) (w : World) (R : Value → World → Prop) : Prop :=
  ∃ (t20 : Addr),
  d = some t20 ∧
  ∃ (t24 : Addr),
  d = some t24 ∧
  ∃ (t26 : Int),
  w.drew.cell? (t24.add 1) = some (.int .i64 t26) ∧
  ∃ (t22 : ByteArray),
  w.drew.cell? t20 = some (.string t22) ∧
  0 ≤ ((IntKind.i64.wrap (t26 + n_)) : Int) ∧
  ((IntKind.i64.wrap (t26 + n_)) : Int) ≤ (((ByteArray.size t22) : Nat) : Int) ∧
  ∃ (t30 : Addr),
  d = some t30 ∧
  (∃ u, w.drew.cell? t30 = some u) ∧
  w.drew.frozen? t30 = false ∧
  S32_k1 d (w.drew.setCell t30 (.string (ByteArray.extract t22 0 (Int.toNat (IntKind.i64.wrap (t26 + n_)))))) R

def S32 (d : Option Addr) (keep : Int) (w : World) (R : Value → World → Prop) : Prop :=
  ∃ (t7 : Addr),
  d = some t7 ∧
  ∃ (t12 : Addr),
  d = some t12 ∧
  ∃ (t9 : ByteArray),
  w.drew.cell? t7 = some (.string t9) ∧
  ∃ (t14 : Int),
  w.drew.cell? (t12.add 1) = some (.int .i64 t14) ∧
  S32_k0 d (if (if (IntKind.i64.wrap (((ByteArray.size t9 : Nat) : Int) - t14)) < keep then (IntKind.i64.wrap (((ByteArray.size t9 : Nat) : Int) - t14)) else keep) > 0 then (if (IntKind.i64.wrap (((ByteArray.size t9 : Nat) : Int) - t14)) < keep then (IntKind.i64.wrap (((ByteArray.size t9 : Nat) : Int) - t14)) else keep) else 0) w.drew R

theorem S32_eq (d : Option Addr) (keep : Int) (w : World) (R : Value → World → Prop) : Eng.R Try.prog ⟨cal, S32_nx⟩ 46 S32_ann [] (Try.f32.body.getD .skip) (bodyQ Try.prog #[] R) (argE [(.pointer d), (.int .i64 keep)]) w = S32 d keep w R := by kernel_rfl
/-- A call of '(*carfax/carfaxref15.Disk).Crash', by its condition. -/
theorem S32_calls {d : Option Addr} {keep : Int} {w : World} {R : Value → World → Prop} (hS : S32 d keep w R) : Ret Try.prog 32 [(.pointer d), (.int .i64 keep)] w R :=
  R_calls (C := ⟨cal, S32_nx⟩) cal_ok follows Try.func32 (c := Try.f32.body.getD .skip) (res := #[]) (n := 46) (by kernel_rfl) (by kernel_rfl) (by kernel_rfl) (by kernel_rfl) ((S32_eq d keep w R).mpr hS)

def S33_ann (p : List Nat) : Option LA :=
  none

def S33_nx (t : Nat) : Option (TypeId × TypeId) := none

def S33_k2 (d : Option Addr) (w : World) (R : Value → World → Prop) : Prop :=
  ∃ (t34 : Addr),
  d = some t34 ∧
  ∃ (t36 : Bool),
  w.cell? (t34.add 2) = some (.bool t36) ∧
  R (.bool (!t36)) w

def S33_k1 (d : Option Addr) (t25 : Bool) (w : World) (R : Value → World → Prop) : Prop :=
  cond t25 (
    ∃ (t27 : Addr),
    d = some t27 ∧
    ∃ (t29 : Int),
    w.cell? (t27.add 3) = some (.int .i64 t29) ∧
    ∃ (t31 : Addr),
    d = some t31 ∧
    (∃ u, w.cell? (t31.add 3) = some u) ∧
    w.frozen? (t31.add 3) = false ∧
    S33_k2 d (w.setCell (t31.add 3) (.int .i64 (IntKind.i64.wrap (t29 - 1)))) R
  ) (
    S33_k2 d w R
  )

def S33_k0 (d : Option Addr) (w : World) (R : Value → World → Prop) : Prop :=
  ∃ (t15 : Addr),
  d = some t15 ∧
  ∃ (t17 : Bool),
  w.cell? (t15.add 2) = some (.bool t17) ∧
  cond (!t17) (
    ∃ (t21 : Addr),
    d = some t21 ∧
    ∃ (t23 : Int),
    w.cell? (t21.add 3) = some (.int .i64 t23) ∧
    S33_k1 d (decide ((0 : Int) < t23)) w R
  ) (
    S33_k1 d false w R
  )

def S33 (d : Option Addr) (w : World) (R : Value → World → Prop) : Prop :=
  ∃ (t4 : Addr),
  d = some t4 ∧
  ∃ (t6 : Int),
  w.cell? (t4.add 3) = some (.int .i64 t6) ∧
  cond (decide ((t6 : Int) = 0)) (
    ∃ (t9 : Addr),
    d = some t9 ∧
    (∃ u, w.cell? (t9.add 2) = some u) ∧
    w.frozen? (t9.add 2) = false ∧
    ∃ (t12 : Addr),
    d = some t12 ∧
    (∃ u, (w.setCell (t9.add 2) (.bool true)).cell? (t12.add 3) = some u) ∧
    (w.setCell (t9.add 2) (.bool true)).frozen? (t12.add 3) = false ∧
    S33_k0 d ((w.setCell (t9.add 2) (.bool true)).setCell (t12.add 3) (.int .i64 (-1))) R
  ) (
    S33_k0 d w R
  )

theorem S33_eq (d : Option Addr) (w : World) (R : Value → World → Prop) : Eng.R Try.prog ⟨cal, S33_nx⟩ 38 S33_ann [] (Try.f33.body.getD .skip) (bodyQ Try.prog #[.tmp 2] R) (argE [(.pointer d)]) w = S33 d w R := by kernel_rfl
/-- A call of '(*carfax/carfaxref15.Disk).on', by its condition. -/
theorem S33_calls {d : Option Addr} {w : World} {R : Value → World → Prop} (hS : S33 d w R) : Ret Try.prog 33 [(.pointer d)] w R :=
  R_calls (C := ⟨cal, S33_nx⟩) cal_ok follows Try.func33 (c := Try.f33.body.getD .skip) (res := #[.tmp 2]) (n := 38) (by kernel_rfl) (by kernel_rfl) (by kernel_rfl) (by kernel_rfl) ((S33_eq d w R).mpr hS)

end Go.Proofs
