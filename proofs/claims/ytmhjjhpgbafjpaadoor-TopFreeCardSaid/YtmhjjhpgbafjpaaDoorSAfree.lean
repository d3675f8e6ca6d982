import Derived.Test.YtmhjjhpgbafjpaaDoorProg
import Derived.Test.YtmhjjhpgbafjpaaDoorEng8
set_option linter.unusedVariables false
set_option maxRecDepth 100000
namespace Go.Proofs
open Go Go.Eng
def cal (f : FuncId) : Bool := Nat.ble 3 f && Nat.blt f 102 && !([28, 68, 70, 71, 74, 77, 79, 80, 81, 82, 83, 84, 85, 86, 87, 88, 89, 90, 91, 92, 93, 94, 95, 96, 97, 98, 99, 100].any fun x => Nat.beq f x)
theorem cal_all : (List.range 102).all (fun f => !cal f || callable Tryd.prog f) = true := by kernel_rfl
theorem cal_ok (f : FuncId) (h : cal f = true) : callable Tryd.prog f = true := by
  have hb := h
  simp only [cal, Bool.and_eq_true, Nat.blt_eq] at hb
  have := List.all_eq_true.1 cal_all f (List.mem_range.2 (by first | exact hb.2 | exact hb.1.2))
  rw [h] at this
  simpa using this
theorem follows : Tryd.prog.follows .mixedOrders = true := by kernel_rfl

def S3_ann (p : List Nat) : Option LA := match p with
  | [0, 1, 0, 1, 1, 1, 1, 1, 1, 1] => some ⟨[5, 7, 9, 10, 11, 12, 87, 88], [(89, .one (.int .i64))]⟩
  | [0, 1, 0, 1, 1, 1, 1, 1, 1, 1, 1] => some ⟨[5, 7, 9, 10, 11, 105, 106], [(107, .one (.int .i64))]⟩
  | [0, 1, 0, 1, 1, 1, 1, 1, 1, 1, 1, 1, 1, 1] => some ⟨[10, 18, 146], [(147, .one (.int .i64))]⟩
  | _ => none

def S3_nx (t : Nat) : Option (TypeId × TypeId) := none

def S3_k5 (b : Addr) (f : Addr) (x : Option Addr) (was_a : Option Addr) (was_l : Nat) (was_c : Nat) (e_1 : Int) (p_a : Option Addr) (p_l : Nat) (p_c : Nat) (t87_a : Option Addr) (t87_l : Nat) (t87_c : Nat) (t88 : Int) (t89 : Int) (w : World) (R : Value → World → Prop) (B1 : (Int) × Unit → World → Prop) : Prop :=
  ∃ (t91 : Addr),
  t87_a = some t91 ∧
  0 ≤ (t89 : Int) ∧
  (t89 : Int) < ((t87_l : Nat) : Int) ∧
  ∃ (t92_0 : Int),
  w.cell? (t91.add (Int.toNat t89 * 2)) = some (.int .i64 t92_0) ∧
  ∃ (t92_1 : Int),
  w.cell? ((t91.add (Int.toNat t89 * 2)).add 1) = some (.int .i64 t92_1) ∧
  (∃ u, (w.alloc (.cells ⟨[(.int .i64 0), (.int .i64 0)]⟩ 38)).cell? ⟨w.heap.size, 0, none⟩ = some u) ∧
  (w.alloc (.cells ⟨[(.int .i64 0), (.int .i64 0)]⟩ 38)).frozen? ⟨w.heap.size, 0, none⟩ = false ∧
  (∃ u, ((w.alloc (.cells ⟨[(.int .i64 0), (.int .i64 0)]⟩ 38)).setCell ⟨w.heap.size, 0, none⟩ (.int .i64 t92_0)).cell? ⟨w.heap.size, 1, none⟩ = some u) ∧
  ((w.alloc (.cells ⟨[(.int .i64 0), (.int .i64 0)]⟩ 38)).setCell ⟨w.heap.size, 0, none⟩ (.int .i64 t92_0)).frozen? ⟨w.heap.size, 1, none⟩ = false ∧
  ∃ (t95 : Int),
  (((w.alloc (.cells ⟨[(.int .i64 0), (.int .i64 0)]⟩ 38)).setCell ⟨w.heap.size, 0, none⟩ (.int .i64 t92_0)).setCell ⟨w.heap.size, 1, none⟩ (.int .i64 t92_1)).cell? ⟨w.heap.size, 0, none⟩ = some (.int .i64 t95) ∧
  ∃ (t97 : Int),
  (((w.alloc (.cells ⟨[(.int .i64 0), (.int .i64 0)]⟩ 38)).setCell ⟨w.heap.size, 0, none⟩ (.int .i64 t92_0)).setCell ⟨w.heap.size, 1, none⟩ (.int .i64 t92_1)).cell? ⟨w.heap.size, 1, none⟩ = some (.int .i64 t97) ∧
  ∃ (t99 : Int),
  (((w.alloc (.cells ⟨[(.int .i64 0), (.int .i64 0)]⟩ 38)).setCell ⟨w.heap.size, 0, none⟩ (.int .i64 t92_0)).setCell ⟨w.heap.size, 1, none⟩ (.int .i64 t92_1)).cell? ⟨w.heap.size, 1, none⟩ = some (.int .i64 t99) ∧
  Calls Tryd.prog 6 ⟨[(.pointer x), (.int .i64 t95), (.agg ⟨[(.int .i64 t97), (.int .i64 (IntKind.i64.wrap (t99 + 1)))]⟩)]⟩ (((w.alloc (.cells ⟨[(.int .i64 0), (.int .i64 0)]⟩ 38)).setCell ⟨w.heap.size, 0, none⟩ (.int .i64 t92_0)).setCell ⟨w.heap.size, 1, none⟩ (.int .i64 t92_1)) fun e w_ =>
    ∃ (t102 : Int),
    e = .returned (.int .i64 t102) ∧
    cond (!decide ((t102 : Int) = 0)) (
      R (.bool false) w_
    ) (
      B1 ((IntKind.i64.wrap (t89 + 1)), ()) w_
    )

def S3_k8 (b : Addr) (f : Addr) (x : Option Addr) (was_a : Option Addr) (was_l : Nat) (was_c : Nat) (e_1 : Int) (t105_a : Option Addr) (t105_l : Nat) (t105_c : Nat) (t106 : Int) (t107 : Int) (w : World) (R : Value → World → Prop) (B1 : (Int) × Unit → World → Prop) : Prop :=
  ∃ (t109 : Addr),
  t105_a = some t109 ∧
  0 ≤ (t107 : Int) ∧
  (t107 : Int) < ((t105_l : Nat) : Int) ∧
  ∃ (t110_0 : Int),
  w.cell? (t109.add (Int.toNat t107 * 2)) = some (.int .i64 t110_0) ∧
  ∃ (t110_1 : Int),
  w.cell? ((t109.add (Int.toNat t107 * 2)).add 1) = some (.int .i64 t110_1) ∧
  (∃ u, (w.alloc (.cells ⟨[(.int .i64 0), (.int .i64 0)]⟩ 38)).cell? ⟨w.heap.size, 0, none⟩ = some u) ∧
  (w.alloc (.cells ⟨[(.int .i64 0), (.int .i64 0)]⟩ 38)).frozen? ⟨w.heap.size, 0, none⟩ = false ∧
  (∃ u, ((w.alloc (.cells ⟨[(.int .i64 0), (.int .i64 0)]⟩ 38)).setCell ⟨w.heap.size, 0, none⟩ (.int .i64 t110_0)).cell? ⟨w.heap.size, 1, none⟩ = some u) ∧
  ((w.alloc (.cells ⟨[(.int .i64 0), (.int .i64 0)]⟩ 38)).setCell ⟨w.heap.size, 0, none⟩ (.int .i64 t110_0)).frozen? ⟨w.heap.size, 1, none⟩ = false ∧
  ∃ (t113 : Int),
  (((w.alloc (.cells ⟨[(.int .i64 0), (.int .i64 0)]⟩ 38)).setCell ⟨w.heap.size, 0, none⟩ (.int .i64 t110_0)).setCell ⟨w.heap.size, 1, none⟩ (.int .i64 t110_1)).cell? ⟨w.heap.size, 0, none⟩ = some (.int .i64 t113) ∧
  ∃ (t115 : Int),
  (((w.alloc (.cells ⟨[(.int .i64 0), (.int .i64 0)]⟩ 38)).setCell ⟨w.heap.size, 0, none⟩ (.int .i64 t110_0)).setCell ⟨w.heap.size, 1, none⟩ (.int .i64 t110_1)).cell? ⟨w.heap.size, 1, none⟩ = some (.int .i64 t115) ∧
  ∃ (t117 : Int),
  (((w.alloc (.cells ⟨[(.int .i64 0), (.int .i64 0)]⟩ 38)).setCell ⟨w.heap.size, 0, none⟩ (.int .i64 t110_0)).setCell ⟨w.heap.size, 1, none⟩ (.int .i64 t110_1)).cell? ⟨w.heap.size, 1, none⟩ = some (.int .i64 t117) ∧
  Calls Tryd.prog 7 ⟨[(.pointer x), (.int .i64 t113), (.agg ⟨[(.int .i64 t115), (.int .i64 (IntKind.i64.wrap (t117 + 1)))]⟩)]⟩ (((w.alloc (.cells ⟨[(.int .i64 0), (.int .i64 0)]⟩ 38)).setCell ⟨w.heap.size, 0, none⟩ (.int .i64 t110_0)).setCell ⟨w.heap.size, 1, none⟩ (.int .i64 t110_1)) fun e w_ =>
    ∃ (t120 : Int),
    e = .returned (.int .i64 t120) ∧
    cond (!decide ((t120 : Int) = 0)) (
      R (.bool false) w_
    ) (
      B1 ((IntKind.i64.wrap (t107 + 1)), ()) w_
    )

def S3_k14 (was_a : Option Addr) (was_l : Nat) (was_c : Nat) (now_a : Option Addr) (now_l : Nat) (now_c : Nat) (t146 : Int) (t147 : Int) (t158 : Bool) (w : World) (R : Value → World → Prop) (B1 : (Int) × Unit → World → Prop) : Prop :=
  cond t158 (
    R (.bool false) w
  ) (
    B1 ((IntKind.i64.wrap (t147 + 1)), ()) w
  )

def S3_k13 (was_a : Option Addr) (was_l : Nat) (was_c : Nat) (now_a : Option Addr) (now_l : Nat) (now_c : Nat) (t146 : Int) (t147 : Int) (w : World) (R : Value → World → Prop) (B1 : (Int) × Unit → World → Prop) : Prop :=
  ∃ (t152 : Addr),
  was_a = some t152 ∧
  0 ≤ (t147 : Int) ∧
  (t147 : Int) < ((was_l : Nat) : Int) ∧
  ∃ (t153_0 : Int),
  w.drew.cell? (t152.add (Int.toNat t147 * 2)) = some (.int .i64 t153_0) ∧
  ∃ (t153_1 : Int),
  w.drew.cell? ((t152.add (Int.toNat t147 * 2)).add 1) = some (.int .i64 t153_1) ∧
  ∃ (t156 : Addr),
  now_a = some t156 ∧
  0 ≤ (t147 : Int) ∧
  (t147 : Int) < ((now_l : Nat) : Int) ∧
  ∃ (t157_0 : Int),
  w.drew.cell? (t156.add (Int.toNat t147 * 2)) = some (.int .i64 t157_0) ∧
  ∃ (t157_1 : Int),
  w.drew.cell? ((t156.add (Int.toNat t147 * 2)).add 1) = some (.int .i64 t157_1) ∧
  ∃ (t158 : Bool) (w_ : World),
  (do eqGuard .neq 38 (.tmp 153) (.tmp 157) (.agg ⟨[(.int .i64 t153_0), (.int .i64 t153_1)]⟩) (.agg ⟨[(.int .i64 t157_0), (.int .i64 t157_1)]⟩); binOp .neq 38 (.agg ⟨[(.int .i64 t153_0), (.int .i64 t153_1)]⟩) (.agg ⟨[(.int .i64 t157_0), (.int .i64 t157_1)]⟩)).run Tryd.prog w.drew = .ok (.bool t158) w_ ∧
  S3_k14 was_a was_l was_c now_a now_l now_c t146 t147 t158 w_ R B1

def S3_L12 (was_a : Option Addr) (was_l : Nat) (was_c : Nat) (now_a : Option Addr) (now_l : Nat) (now_c : Nat) (t146 : Int) (t147 : Int) (w : World) (R : Value → World → Prop) (B1 : (Int) × Unit → World → Prop) : Prop :=
  cond (decide ((t147 : Int) < t146)) (
    S3_k13 was_a was_l was_c now_a now_l now_c t146 t147 w R B1
  ) (
    R (.bool true) w
  )

def S3_k11 (was_a : Option Addr) (was_l : Nat) (was_c : Nat) (now_a : Option Addr) (now_l : Nat) (now_c : Nat) (w : World) (R : Value → World → Prop) : Prop :=
  ∃ (I : (Int) × Unit → World → Prop) (μ : (Int) × Unit → World → Nat),
  I (0, ()) w ∧
  ∀ (J : Env) (s : (Int) × Unit) (w' : World), I s w' →
    S3_L12 was_a was_l was_c now_a now_l now_c ((was_l : Nat) : Int) s.1 w' R (fun s' w'' => I s' w'' ∧ μ s' w'' < μ s w')

def S3_k10 (was_a : Option Addr) (was_l : Nat) (was_c : Nat) (now_a : Option Addr) (now_l : Nat) (now_c : Nat) (t144 : Bool) (w : World) (R : Value → World → Prop) : Prop :=
  cond t144 (
    R (.bool false) w
  ) (
    S3_k11 was_a was_l was_c now_a now_l now_c w R
  )

def S3_k9 (b : Addr) (f : Addr) (x : Option Addr) (was_a : Option Addr) (was_l : Nat) (was_c : Nat) (e_1 : Int) (w : World) (R : Value → World → Prop) : Prop :=
  ∃ (t124_0 : Int),
  w.cell? f = some (.int .i64 t124_0) ∧
  ∃ (t124_1 : Int),
  w.cell? (f.add 1) = some (.int .i64 t124_1) ∧
  ∃ (t124_2 : ByteArray),
  w.cell? (f.add 2) = some (.string t124_2) ∧
  ∃ (t127 : Int),
  w.cell? b = some (.int .i64 t127) ∧
  ∃ (t129 : Int),
  w.cell? (b.add 2) = some (.int .i64 t129) ∧
  ∃ (t131 : Int),
  w.cell? (b.add 1) = some (.int .i64 t131) ∧
  Calls Tryd.prog 8 ⟨[(.agg ⟨[(.int .i64 t124_0), (.int .i64 t124_1), (.string t124_2)]⟩), (.pointer x), (.int .i64 t127), (.int .i64 t129), (.int .i64 t131), (.int .i64 40)]⟩ w fun e w_ =>
    ∃ (t132_0_a : Option Addr) (t132_0_l : Nat) (t132_0_c : Nat) (t132_1 : Int),
    e = .returned (.tuple ⟨[(.slice t132_0_a t132_0_l t132_0_c), (.int .i64 t132_1)]⟩) ∧
    cond (!decide ((e_1 : Int) = t132_1)) (
      S3_k10 was_a was_l was_c t132_0_a t132_0_l t132_0_c true w_ R
    ) (
      S3_k10 was_a was_l was_c t132_0_a t132_0_l t132_0_c (!decide ((((was_l : Nat) : Int) : Int) = ((t132_0_l : Nat) : Int))) w_ R
    )

def S3_L7 (b : Addr) (f : Addr) (x : Option Addr) (was_a : Option Addr) (was_l : Nat) (was_c : Nat) (e_1 : Int) (t105_a : Option Addr) (t105_l : Nat) (t105_c : Nat) (t106 : Int) (t107 : Int) (w : World) (R : Value → World → Prop) (B1 : (Int) × Unit → World → Prop) : Prop :=
  cond (decide ((t107 : Int) < t106)) (
    S3_k8 b f x was_a was_l was_c e_1 t105_a t105_l t105_c t106 t107 w R B1
  ) (
    S3_k9 b f x was_a was_l was_c e_1 w R
  )

def S3_k6 (b : Addr) (f : Addr) (x : Option Addr) (was_a : Option Addr) (was_l : Nat) (was_c : Nat) (e_1 : Int) (p_a : Option Addr) (p_l : Nat) (p_c : Nat) (w : World) (R : Value → World → Prop) : Prop :=
  ∃ (I : (Int) × Unit → World → Prop) (μ : (Int) × Unit → World → Nat),
  I (0, ()) w ∧
  ∀ (J : Env) (s : (Int) × Unit) (w' : World), I s w' →
    S3_L7 b f x was_a was_l was_c e_1 p_a p_l p_c ((p_l : Nat) : Int) s.1 w' R (fun s' w'' => I s' w'' ∧ μ s' w'' < μ s w')

def S3_L4 (b : Addr) (f : Addr) (x : Option Addr) (was_a : Option Addr) (was_l : Nat) (was_c : Nat) (e_1 : Int) (p_a : Option Addr) (p_l : Nat) (p_c : Nat) (t87_a : Option Addr) (t87_l : Nat) (t87_c : Nat) (t88 : Int) (t89 : Int) (w : World) (R : Value → World → Prop) (B1 : (Int) × Unit → World → Prop) : Prop :=
  cond (decide ((t89 : Int) < t88)) (
    S3_k5 b f x was_a was_l was_c e_1 p_a p_l p_c t87_a t87_l t87_c t88 t89 w R B1
  ) (
    S3_k6 b f x was_a was_l was_c e_1 p_a p_l p_c w R
  )

def S3_k3 (a : Addr) (b : Addr) (f : Addr) (x : Option Addr) (w : World) (R : Value → World → Prop) : Prop :=
  ∃ (t64_0 : Int),
  w.cell? f = some (.int .i64 t64_0) ∧
  ∃ (t64_1 : Int),
  w.cell? (f.add 1) = some (.int .i64 t64_1) ∧
  ∃ (t64_2 : ByteArray),
  w.cell? (f.add 2) = some (.string t64_2) ∧
  ∃ (t67 : Int),
  w.cell? b = some (.int .i64 t67) ∧
  ∃ (t69 : Int),
  w.cell? (b.add 2) = some (.int .i64 t69) ∧
  ∃ (t71 : Int),
  w.cell? (b.add 1) = some (.int .i64 t71) ∧
  Calls Tryd.prog 8 ⟨[(.agg ⟨[(.int .i64 t64_0), (.int .i64 t64_1), (.string t64_2)]⟩), (.pointer x), (.int .i64 t67), (.int .i64 t69), (.int .i64 t71), (.int .i64 40)]⟩ w fun e w_ =>
    ∃ (t72_0_a : Option Addr) (t72_0_l : Nat) (t72_0_c : Nat) (t72_1 : Int),
    e = .returned (.tuple ⟨[(.slice t72_0_a t72_0_l t72_0_c), (.int .i64 t72_1)]⟩) ∧
    ∃ (t76_0 : Int),
    w_.cell? f = some (.int .i64 t76_0) ∧
    ∃ (t76_1 : Int),
    w_.cell? (f.add 1) = some (.int .i64 t76_1) ∧
    ∃ (t76_2 : ByteArray),
    w_.cell? (f.add 2) = some (.string t76_2) ∧
    ∃ (t79 : Int),
    w_.cell? a = some (.int .i64 t79) ∧
    ∃ (t81 : Int),
    w_.cell? (a.add 2) = some (.int .i64 t81) ∧
    ∃ (t83 : Int),
    w_.cell? (a.add 1) = some (.int .i64 t83) ∧
    Calls Tryd.prog 8 ⟨[(.agg ⟨[(.int .i64 t76_0), (.int .i64 t76_1), (.string t76_2)]⟩), (.pointer x), (.int .i64 t79), (.int .i64 t81), (.int .i64 t83), (.int .i64 40)]⟩ w_ fun e w__1 =>
      ∃ (t84_0_a : Option Addr) (t84_0_l : Nat) (t84_0_c : Nat) (t84_1 : Int),
      e = .returned (.tuple ⟨[(.slice t84_0_a t84_0_l t84_0_c), (.int .i64 t84_1)]⟩) ∧
      ∃ (I : (Int) × Unit → World → Prop) (μ : (Int) × Unit → World → Nat),
      I (0, ()) w__1 ∧
      ∀ (J : Env) (s : (Int) × Unit) (w' : World), I s w' →
        S3_L4 b f x t72_0_a t72_0_l t72_0_c t72_1 t84_0_a t84_0_l t84_0_c t84_0_a t84_0_l t84_0_c ((t84_0_l : Nat) : Int) s.1 w' R (fun s' w'' => I s' w'' ∧ μ s' w'' < μ s w')

def S3_k2 (a : Addr) (b : Addr) (f : Addr) (x : Option Addr) (t62 : Bool) (w : World) (R : Value → World → Prop) : Prop :=
  cond t62 (
    R (.bool true) w
  ) (
    S3_k3 a b f x w R
  )

def S3_k1 (a : Addr) (b : Addr) (f : Addr) (x : Option Addr) (w : World) (R : Value → World → Prop) : Prop :=
  ∃ (t46 : Int),
  w.cell? (a.add 2) = some (.int .i64 t46) ∧
  cond (decide ((t46 : Int) < 0)) (
    S3_k2 a b f x true w R
  ) (
    ∃ (t50 : Int),
    w.cell? (a.add 2) = some (.int .i64 t50) ∧
    cond (decide ((1000 : Int) < t50)) (
      S3_k2 a b f x true w R
    ) (
      ∃ (t55 : Int),
      w.cell? (b.add 2) = some (.int .i64 t55) ∧
      cond (decide ((t55 : Int) < 0)) (
        S3_k2 a b f x true w R
      ) (
        ∃ (t60 : Int),
        w.cell? (b.add 2) = some (.int .i64 t60) ∧
        S3_k2 a b f x (decide ((1000 : Int) < t60)) w R
      )
    )
  )

def S3_k0 (a : Addr) (b : Addr) (f : Addr) (x : Option Addr) (t44 : Bool) (w : World) (R : Value → World → Prop) : Prop :=
  cond t44 (
    R (.bool false) w
  ) (
    S3_k1 a b f x w R
  )

def S3 (t : ByteArray) (a_0 : Int) (a_1 : Int) (a_2 : Int) (b_0 : Int) (b_1 : Int) (b_2 : Int) (w : World) (R : Value → World → Prop) : Prop :=
  Calls Tryd.prog 4 ⟨[(.string t)]⟩ ((w.alloc (.cells ⟨[(.int .i64 a_0), (.int .i64 a_1), (.int .i64 a_2)]⟩ 23)).alloc (.cells ⟨[(.int .i64 b_0), (.int .i64 b_1), (.int .i64 b_2)]⟩ 23)) fun e w_ =>
    ∃ (t23_0_0 : Int) (t23_0_1 : Int) (t23_0_2 : ByteArray) (t23_1 : Bool),
    e = .returned (.tuple ⟨[(.agg ⟨[(.int .i64 t23_0_0), (.int .i64 t23_0_1), (.string t23_0_2)]⟩), (.bool t23_1)]⟩) ∧
    (∃ u, (w_.alloc (.cells ⟨[(.int .i64 0), (.int .i64 0), (.string (⟨#[]⟩ : ByteArray))]⟩ 25)).cell? ⟨w_.heap.size, 0, none⟩ = some u) ∧
    (w_.alloc (.cells ⟨[(.int .i64 0), (.int .i64 0), (.string (⟨#[]⟩ : ByteArray))]⟩ 25)).frozen? ⟨w_.heap.size, 0, none⟩ = false ∧
    (∃ u, ((w_.alloc (.cells ⟨[(.int .i64 0), (.int .i64 0), (.string (⟨#[]⟩ : ByteArray))]⟩ 25)).setCell ⟨w_.heap.size, 0, none⟩ (.int .i64 t23_0_0)).cell? ⟨w_.heap.size, 1, none⟩ = some u) ∧
    ((w_.alloc (.cells ⟨[(.int .i64 0), (.int .i64 0), (.string (⟨#[]⟩ : ByteArray))]⟩ 25)).setCell ⟨w_.heap.size, 0, none⟩ (.int .i64 t23_0_0)).frozen? ⟨w_.heap.size, 1, none⟩ = false ∧
    (∃ u, (((w_.alloc (.cells ⟨[(.int .i64 0), (.int .i64 0), (.string (⟨#[]⟩ : ByteArray))]⟩ 25)).setCell ⟨w_.heap.size, 0, none⟩ (.int .i64 t23_0_0)).setCell ⟨w_.heap.size, 1, none⟩ (.int .i64 t23_0_1)).cell? ⟨w_.heap.size, 2, none⟩ = some u) ∧
    (((w_.alloc (.cells ⟨[(.int .i64 0), (.int .i64 0), (.string (⟨#[]⟩ : ByteArray))]⟩ 25)).setCell ⟨w_.heap.size, 0, none⟩ (.int .i64 t23_0_0)).setCell ⟨w_.heap.size, 1, none⟩ (.int .i64 t23_0_1)).frozen? ⟨w_.heap.size, 2, none⟩ = false ∧
    Calls Tryd.prog 5 ⟨[]⟩ ((((w_.alloc (.cells ⟨[(.int .i64 0), (.int .i64 0), (.string (⟨#[]⟩ : ByteArray))]⟩ 25)).setCell ⟨w_.heap.size, 0, none⟩ (.int .i64 t23_0_0)).setCell ⟨w_.heap.size, 1, none⟩ (.int .i64 t23_0_1)).setCell ⟨w_.heap.size, 2, none⟩ (.string t23_0_2)) fun e w__1 =>
      ∃ (t26 : Option Addr),
      e = .returned (.pointer t26) ∧
      cond (!t23_1) (
        S3_k0 ⟨w.heap.size, 0, none⟩ ⟨(w.alloc (.cells ⟨[(.int .i64 a_0), (.int .i64 a_1), (.int .i64 a_2)]⟩ 23)).heap.size, 0, none⟩ ⟨w_.heap.size, 0, none⟩ t26 true w__1 R
      ) (
        cond (Option.isNone t26) (
          S3_k0 ⟨w.heap.size, 0, none⟩ ⟨(w.alloc (.cells ⟨[(.int .i64 a_0), (.int .i64 a_1), (.int .i64 a_2)]⟩ 23)).heap.size, 0, none⟩ ⟨w_.heap.size, 0, none⟩ t26 true w__1 R
        ) (
          Calls Tryd.prog 6 ⟨[(.pointer t26), (.int .i64 0), (.agg ⟨[(.int .i64 5), (.int .i64 6)]⟩)]⟩ w__1 fun e w__2 =>
            ∃ (t36 : Int),
            e = .returned (.int .i64 t36) ∧
            cond (!decide ((t36 : Int) = 0)) (
              S3_k0 ⟨w.heap.size, 0, none⟩ ⟨(w.alloc (.cells ⟨[(.int .i64 a_0), (.int .i64 a_1), (.int .i64 a_2)]⟩ 23)).heap.size, 0, none⟩ ⟨w_.heap.size, 0, none⟩ t26 true w__2 R
            ) (
              Calls Tryd.prog 7 ⟨[(.pointer t26), (.int .i64 0), (.agg ⟨[(.int .i64 5), (.int .i64 6)]⟩)]⟩ w__2 fun e w__3 =>
                ∃ (t42 : Int),
                e = .returned (.int .i64 t42) ∧
                S3_k0 ⟨w.heap.size, 0, none⟩ ⟨(w.alloc (.cells ⟨[(.int .i64 a_0), (.int .i64 a_1), (.int .i64 a_2)]⟩ 23)).heap.size, 0, none⟩ ⟨w_.heap.size, 0, none⟩ t26 (!decide ((t42 : Int) = 0)) w__3 R
            )
        )
      )

theorem S3_eq (t : ByteArray) (a_0 : Int) (a_1 : Int) (a_2 : Int) (b_0 : Int) (b_1 : Int) (b_2 : Int) (w : World) (R : Value → World → Prop) : Eng.R Tryd.prog ⟨cal, S3_nx⟩ 160 S3_ann [] (Tryd.f3.body.getD .skip) (bodyQ Tryd.prog #[.tmp 6] R) (argE [(.string t), (.agg ⟨[(.int .i64 a_0), (.int .i64 a_1), (.int .i64 a_2)]⟩), (.agg ⟨[(.int .i64 b_0), (.int .i64 b_1), (.int .i64 b_2)]⟩)]) w = S3 t a_0 a_1 a_2 b_0 b_1 b_2 w R := by kernel_rfl
/-- A call of 'carfax/carfaxtop.TopFree', by its condition. -/
theorem S3_calls {t : ByteArray} {a_0 : Int} {a_1 : Int} {a_2 : Int} {b_0 : Int} {b_1 : Int} {b_2 : Int} {w : World} {R : Value → World → Prop} (hS : S3 t a_0 a_1 a_2 b_0 b_1 b_2 w R) : Ret Tryd.prog 3 [(.string t), (.agg ⟨[(.int .i64 a_0), (.int .i64 a_1), (.int .i64 a_2)]⟩), (.agg ⟨[(.int .i64 b_0), (.int .i64 b_1), (.int .i64 b_2)]⟩)] w R :=
  R_calls (C := ⟨cal, S3_nx⟩) cal_ok follows Tryd.func3 (c := Tryd.f3.body.getD .skip) (res := #[.tmp 6]) (n := 160) (by kernel_rfl) (by kernel_rfl) (by kernel_rfl) (by kernel_rfl) ((S3_eq t a_0 a_1 a_2 b_0 b_1 b_2 w R).mpr hS)

def S4_ann (p : List Nat) : Option LA :=
  none

def S4_nx (t : Nat) : Option (TypeId × TypeId) := none

def S4_k0 (t2 : Addr) (f : Addr) (e_1 : Int) (w : World) (R : Value → World → Prop) : Prop :=
  cond (decide ((e_1 : Int) = 0)) (
    (
      ∃ (t24_0 : Int),
      w.drew.cell? f = some (.int .i64 t24_0) ∧
      ∃ (t24_1 : Int),
      w.drew.cell? (f.add 1) = some (.int .i64 t24_1) ∧
      ∃ (t24_2 : ByteArray),
      w.drew.cell? (f.add 2) = some (.string t24_2) ∧
      (
        ∃ (t29 : ByteArray),
        w.drew.cell? (f.add 2) = some (.string t29) ∧
        (∃ u, w.drew.cell? t2 = some u) ∧
        w.drew.frozen? t2 = false ∧
        (∃ u, (w.drew.setCell t2 (.int .i64 t24_0)).cell? (t2.add 1) = some u) ∧
        (w.drew.setCell t2 (.int .i64 t24_0)).frozen? (t2.add 1) = false ∧
        (∃ u, ((w.drew.setCell t2 (.int .i64 t24_0)).setCell (t2.add 1) (.int .i64 t24_1)).cell? (t2.add 2) = some u) ∧
        ((w.drew.setCell t2 (.int .i64 t24_0)).setCell (t2.add 1) (.int .i64 t24_1)).frozen? (t2.add 2) = false ∧
        ∃ (t2_0 : Int),
        (((w.drew.setCell t2 (.int .i64 t24_0)).setCell (t2.add 1) (.int .i64 t24_1)).setCell (t2.add 2) (.string t24_2)).cell? t2 = some (.int .i64 t2_0) ∧
        ∃ (t2_1 : Int),
        (((w.drew.setCell t2 (.int .i64 t24_0)).setCell (t2.add 1) (.int .i64 t24_1)).setCell (t2.add 2) (.string t24_2)).cell? (t2.add 1) = some (.int .i64 t2_1) ∧
        ∃ (t2_2 : ByteArray),
        (((w.drew.setCell t2 (.int .i64 t24_0)).setCell (t2.add 1) (.int .i64 t24_1)).setCell (t2.add 2) (.string t24_2)).cell? (t2.add 2) = some (.string t2_2) ∧
        R (.tuple ⟨[(.agg ⟨[(.int .i64 t2_0), (.int .i64 t2_1), (.string t2_2)]⟩), (.bool (decide ((0 : Int) < ((ByteArray.size t29 : Nat) : Int))))]⟩) (((w.drew.setCell t2 (.int .i64 t24_0)).setCell (t2.add 1) (.int .i64 t24_1)).setCell (t2.add 2) (.string t24_2))
      ) ∧
      (
        (∃ u, w.drew.cell? t2 = some u) ∧
        w.drew.frozen? t2 = false ∧
        (∃ u, (w.drew.setCell t2 (.int .i64 t24_0)).cell? (t2.add 1) = some u) ∧
        (w.drew.setCell t2 (.int .i64 t24_0)).frozen? (t2.add 1) = false ∧
        (∃ u, ((w.drew.setCell t2 (.int .i64 t24_0)).setCell (t2.add 1) (.int .i64 t24_1)).cell? (t2.add 2) = some u) ∧
        ((w.drew.setCell t2 (.int .i64 t24_0)).setCell (t2.add 1) (.int .i64 t24_1)).frozen? (t2.add 2) = false ∧
        ∃ (t29_1 : ByteArray),
        (((w.drew.setCell t2 (.int .i64 t24_0)).setCell (t2.add 1) (.int .i64 t24_1)).setCell (t2.add 2) (.string t24_2)).cell? (f.add 2) = some (.string t29_1) ∧
        ∃ (t2_0_1 : Int),
        (((w.drew.setCell t2 (.int .i64 t24_0)).setCell (t2.add 1) (.int .i64 t24_1)).setCell (t2.add 2) (.string t24_2)).cell? t2 = some (.int .i64 t2_0_1) ∧
        ∃ (t2_1_1 : Int),
        (((w.drew.setCell t2 (.int .i64 t24_0)).setCell (t2.add 1) (.int .i64 t24_1)).setCell (t2.add 2) (.string t24_2)).cell? (t2.add 1) = some (.int .i64 t2_1_1) ∧
        ∃ (t2_2_1 : ByteArray),
        (((w.drew.setCell t2 (.int .i64 t24_0)).setCell (t2.add 1) (.int .i64 t24_1)).setCell (t2.add 2) (.string t24_2)).cell? (t2.add 2) = some (.string t2_2_1) ∧
        R (.tuple ⟨[(.agg ⟨[(.int .i64 t2_0_1), (.int .i64 t2_1_1), (.string t2_2_1)]⟩), (.bool (decide ((0 : Int) < ((ByteArray.size t29_1 : Nat) : Int))))]⟩) (((w.drew.setCell t2 (.int .i64 t24_0)).setCell (t2.add 1) (.int .i64 t24_1)).setCell (t2.add 2) (.string t24_2))
      )
    ) ∧
    (
      ∃ (t29_2 : ByteArray),
      w.drew.cell? (f.add 2) = some (.string t29_2) ∧
      ∃ (t24_0_1 : Int),
      w.drew.cell? f = some (.int .i64 t24_0_1) ∧
      ∃ (t24_1_1 : Int),
      w.drew.cell? (f.add 1) = some (.int .i64 t24_1_1) ∧
      ∃ (t24_2_1 : ByteArray),
      w.drew.cell? (f.add 2) = some (.string t24_2_1) ∧
      (∃ u, w.drew.cell? t2 = some u) ∧
      w.drew.frozen? t2 = false ∧
      (∃ u, (w.drew.setCell t2 (.int .i64 t24_0_1)).cell? (t2.add 1) = some u) ∧
      (w.drew.setCell t2 (.int .i64 t24_0_1)).frozen? (t2.add 1) = false ∧
      (∃ u, ((w.drew.setCell t2 (.int .i64 t24_0_1)).setCell (t2.add 1) (.int .i64 t24_1_1)).cell? (t2.add 2) = some u) ∧
      ((w.drew.setCell t2 (.int .i64 t24_0_1)).setCell (t2.add 1) (.int .i64 t24_1_1)).frozen? (t2.add 2) = false ∧
      ∃ (t2_0_2 : Int),
      (((w.drew.setCell t2 (.int .i64 t24_0_1)).setCell (t2.add 1) (.int .i64 t24_1_1)).setCell (t2.add 2) (.string t24_2_1)).cell? t2 = some (.int .i64 t2_0_2) ∧
      ∃ (t2_1_2 : Int),
      (((w.drew.setCell t2 (.int .i64 t24_0_1)).setCell (t2.add 1) (.int .i64 t24_1_1)).setCell (t2.add 2) (.string t24_2_1)).cell? (t2.add 1) = some (.int .i64 t2_1_2) ∧
      ∃ (t2_2_2 : ByteArray),
      (((w.drew.setCell t2 (.int .i64 t24_0_1)).setCell (t2.add 1) (.int .i64 t24_1_1)).setCell (t2.add 2) (.string t24_2_1)).cell? (t2.add 2) = some (.string t2_2_2) ∧
      R (.tuple ⟨[(.agg ⟨[(.int .i64 t2_0_2), (.int .i64 t2_1_2), (.string t2_2_2)]⟩), (.bool (decide ((0 : Int) < ((ByteArray.size t29_2 : Nat) : Int))))]⟩) (((w.drew.setCell t2 (.int .i64 t24_0_1)).setCell (t2.add 1) (.int .i64 t24_1_1)).setCell (t2.add 2) (.string t24_2_1))
    )
  ) (
    (
      ∃ (t24_0_2 : Int),
      w.drew.cell? f = some (.int .i64 t24_0_2) ∧
      ∃ (t24_1_2 : Int),
      w.drew.cell? (f.add 1) = some (.int .i64 t24_1_2) ∧
      ∃ (t24_2_2 : ByteArray),
      w.drew.cell? (f.add 2) = some (.string t24_2_2) ∧
      (
        (∃ u, w.drew.cell? t2 = some u) ∧
        w.drew.frozen? t2 = false ∧
        (∃ u, (w.drew.setCell t2 (.int .i64 t24_0_2)).cell? (t2.add 1) = some u) ∧
        (w.drew.setCell t2 (.int .i64 t24_0_2)).frozen? (t2.add 1) = false ∧
        (∃ u, ((w.drew.setCell t2 (.int .i64 t24_0_2)).setCell (t2.add 1) (.int .i64 t24_1_2)).cell? (t2.add 2) = some u) ∧
        ((w.drew.setCell t2 (.int .i64 t24_0_2)).setCell (t2.add 1) (.int .i64 t24_1_2)).frozen? (t2.add 2) = false ∧
        ∃ (t2_0_3 : Int),
        (((w.drew.setCell t2 (.int .i64 t24_0_2)).setCell (t2.add 1) (.int .i64 t24_1_2)).setCell (t2.add 2) (.string t24_2_2)).cell? t2 = some (.int .i64 t2_0_3) ∧
        ∃ (t2_1_3 : Int),
        (((w.drew.setCell t2 (.int .i64 t24_0_2)).setCell (t2.add 1) (.int .i64 t24_1_2)).setCell (t2.add 2) (.string t24_2_2)).cell? (t2.add 1) = some (.int .i64 t2_1_3) ∧
        ∃ (t2_2_3 : ByteArray),
        (((w.drew.setCell t2 (.int .i64 t24_0_2)).setCell (t2.add 1) (.int .i64 t24_1_2)).setCell (t2.add 2) (.string t24_2_2)).cell? (t2.add 2) = some (.string t2_2_3) ∧
        R (.tuple ⟨[(.agg ⟨[(.int .i64 t2_0_3), (.int .i64 t2_1_3), (.string t2_2_3)]⟩), (.bool false)]⟩) (((w.drew.setCell t2 (.int .i64 t24_0_2)).setCell (t2.add 1) (.int .i64 t24_1_2)).setCell (t2.add 2) (.string t24_2_2))
      ) ∧
      (
        (∃ u, w.drew.cell? t2 = some u) ∧
        w.drew.frozen? t2 = false ∧
        (∃ u, (w.drew.setCell t2 (.int .i64 t24_0_2)).cell? (t2.add 1) = some u) ∧
        (w.drew.setCell t2 (.int .i64 t24_0_2)).frozen? (t2.add 1) = false ∧
        (∃ u, ((w.drew.setCell t2 (.int .i64 t24_0_2)).setCell (t2.add 1) (.int .i64 t24_1_2)).cell? (t2.add 2) = some u) ∧
        ((w.drew.setCell t2 (.int .i64 t24_0_2)).setCell (t2.add 1) (.int .i64 t24_1_2)).frozen? (t2.add 2) = false ∧
        ∃ (t2_0_4 : Int),
        (((w.drew.setCell t2 (.int .i64 t24_0_2)).setCell (t2.add 1) (.int .i64 t24_1_2)).setCell (t2.add 2) (.string t24_2_2)).cell? t2 = some (.int .i64 t2_0_4) ∧
        ∃ (t2_1_4 : Int),
        (((w.drew.setCell t2 (.int .i64 t24_0_2)).setCell (t2.add 1) (.int .i64 t24_1_2)).setCell (t2.add 2) (.string t24_2_2)).cell? (t2.add 1) = some (.int .i64 t2_1_4) ∧
        ∃ (t2_2_4 : ByteArray),
        (((w.drew.setCell t2 (.int .i64 t24_0_2)).setCell (t2.add 1) (.int .i64 t24_1_2)).setCell (t2.add 2) (.string t24_2_2)).cell? (t2.add 2) = some (.string t2_2_4) ∧
        R (.tuple ⟨[(.agg ⟨[(.int .i64 t2_0_4), (.int .i64 t2_1_4), (.string t2_2_4)]⟩), (.bool false)]⟩) (((w.drew.setCell t2 (.int .i64 t24_0_2)).setCell (t2.add 1) (.int .i64 t24_1_2)).setCell (t2.add 2) (.string t24_2_2))
      )
    ) ∧
    (
      ∃ (t24_0_3 : Int),
      w.drew.cell? f = some (.int .i64 t24_0_3) ∧
      ∃ (t24_1_3 : Int),
      w.drew.cell? (f.add 1) = some (.int .i64 t24_1_3) ∧
      ∃ (t24_2_3 : ByteArray),
      w.drew.cell? (f.add 2) = some (.string t24_2_3) ∧
      (∃ u, w.drew.cell? t2 = some u) ∧
      w.drew.frozen? t2 = false ∧
      (∃ u, (w.drew.setCell t2 (.int .i64 t24_0_3)).cell? (t2.add 1) = some u) ∧
      (w.drew.setCell t2 (.int .i64 t24_0_3)).frozen? (t2.add 1) = false ∧
      (∃ u, ((w.drew.setCell t2 (.int .i64 t24_0_3)).setCell (t2.add 1) (.int .i64 t24_1_3)).cell? (t2.add 2) = some u) ∧
      ((w.drew.setCell t2 (.int .i64 t24_0_3)).setCell (t2.add 1) (.int .i64 t24_1_3)).frozen? (t2.add 2) = false ∧
      ∃ (t2_0_5 : Int),
      (((w.drew.setCell t2 (.int .i64 t24_0_3)).setCell (t2.add 1) (.int .i64 t24_1_3)).setCell (t2.add 2) (.string t24_2_3)).cell? t2 = some (.int .i64 t2_0_5) ∧
      ∃ (t2_1_5 : Int),
      (((w.drew.setCell t2 (.int .i64 t24_0_3)).setCell (t2.add 1) (.int .i64 t24_1_3)).setCell (t2.add 2) (.string t24_2_3)).cell? (t2.add 1) = some (.int .i64 t2_1_5) ∧
      ∃ (t2_2_5 : ByteArray),
      (((w.drew.setCell t2 (.int .i64 t24_0_3)).setCell (t2.add 1) (.int .i64 t24_1_3)).setCell (t2.add 2) (.string t24_2_3)).cell? (t2.add 2) = some (.string t2_2_5) ∧
      R (.tuple ⟨[(.agg ⟨[(.int .i64 t2_0_5), (.int .i64 t2_1_5), (.string t2_2_5)]⟩), (.bool false)]⟩) (((w.drew.setCell t2 (.int .i64 t24_0_3)).setCell (t2.add 1) (.int .i64 t24_1_3)).setCell (t2.add 2) (.string t24_2_3))
    )
  )

def S4 (t : ByteArray) (w : World) (R : Value → World → Prop) : Prop :=
  0 ≤ ((if 60 < ((ByteArray.size t : Nat) : Int) then 60 else ((ByteArray.size t : Nat) : Int)) : Int) ∧
  ((if 60 < ((ByteArray.size t : Nat) : Int) then 60 else ((ByteArray.size t : Nat) : Int)) : Int) ≤ (((ByteArray.size t) : Nat) : Int) ∧
  Calls Tryd.prog 9 ⟨[(.string (ByteArray.extract t 0 (Int.toNat (if 60 < ((ByteArray.size t : Nat) : Int) then 60 else ((ByteArray.size t : Nat) : Int)))))]⟩ (w.alloc (.cells ⟨[(.int .i64 0), (.int .i64 0), (.string (⟨#[]⟩ : ByteArray))]⟩ 25)) fun e w_ =>
    ∃ (t13_0_0 : Int) (t13_0_1 : Int) (t13_0_2 : ByteArray) (t13_1 : Int) (t13_2 : Int),
    e = .returned (.tuple ⟨[(.agg ⟨[(.int .i64 t13_0_0), (.int .i64 t13_0_1), (.string t13_0_2)]⟩), (.int .i64 t13_1), (.int .i64 t13_2)]⟩) ∧
    (∃ u, (w_.alloc (.cells ⟨[(.int .i64 0), (.int .i64 0), (.string (⟨#[]⟩ : ByteArray))]⟩ 25)).cell? ⟨w_.heap.size, 0, none⟩ = some u) ∧
    (w_.alloc (.cells ⟨[(.int .i64 0), (.int .i64 0), (.string (⟨#[]⟩ : ByteArray))]⟩ 25)).frozen? ⟨w_.heap.size, 0, none⟩ = false ∧
    (∃ u, ((w_.alloc (.cells ⟨[(.int .i64 0), (.int .i64 0), (.string (⟨#[]⟩ : ByteArray))]⟩ 25)).setCell ⟨w_.heap.size, 0, none⟩ (.int .i64 t13_0_0)).cell? ⟨w_.heap.size, 1, none⟩ = some u) ∧
    ((w_.alloc (.cells ⟨[(.int .i64 0), (.int .i64 0), (.string (⟨#[]⟩ : ByteArray))]⟩ 25)).setCell ⟨w_.heap.size, 0, none⟩ (.int .i64 t13_0_0)).frozen? ⟨w_.heap.size, 1, none⟩ = false ∧
    (∃ u, (((w_.alloc (.cells ⟨[(.int .i64 0), (.int .i64 0), (.string (⟨#[]⟩ : ByteArray))]⟩ 25)).setCell ⟨w_.heap.size, 0, none⟩ (.int .i64 t13_0_0)).setCell ⟨w_.heap.size, 1, none⟩ (.int .i64 t13_0_1)).cell? ⟨w_.heap.size, 2, none⟩ = some u) ∧
    (((w_.alloc (.cells ⟨[(.int .i64 0), (.int .i64 0), (.string (⟨#[]⟩ : ByteArray))]⟩ 25)).setCell ⟨w_.heap.size, 0, none⟩ (.int .i64 t13_0_0)).setCell ⟨w_.heap.size, 1, none⟩ (.int .i64 t13_0_1)).frozen? ⟨w_.heap.size, 2, none⟩ = false ∧
    cond (!decide ((t13_2 : Int) = 0)) (
      Calls Tryd.prog 9 ⟨[(.string (⟨#[48, 97, 97, 98, 49, 10, 35, 99, 35, 100, 35, 10, 50, 101, 101, 102, 102, 10]⟩ : ByteArray))]⟩ ((((w_.alloc (.cells ⟨[(.int .i64 0), (.int .i64 0), (.string (⟨#[]⟩ : ByteArray))]⟩ 25)).setCell ⟨w_.heap.size, 0, none⟩ (.int .i64 t13_0_0)).setCell ⟨w_.heap.size, 1, none⟩ (.int .i64 t13_0_1)).setCell ⟨w_.heap.size, 2, none⟩ (.string t13_0_2)) fun e w__1 =>
        ∃ (t20_0_0 : Int) (t20_0_1 : Int) (t20_0_2 : ByteArray) (t20_1 : Int) (t20_2 : Int),
        e = .returned (.tuple ⟨[(.agg ⟨[(.int .i64 t20_0_0), (.int .i64 t20_0_1), (.string t20_0_2)]⟩), (.int .i64 t20_1), (.int .i64 t20_2)]⟩) ∧
        (∃ u, w__1.cell? ⟨w_.heap.size, 0, none⟩ = some u) ∧
        w__1.frozen? ⟨w_.heap.size, 0, none⟩ = false ∧
        (∃ u, (w__1.setCell ⟨w_.heap.size, 0, none⟩ (.int .i64 t20_0_0)).cell? ⟨w_.heap.size, 1, none⟩ = some u) ∧
        (w__1.setCell ⟨w_.heap.size, 0, none⟩ (.int .i64 t20_0_0)).frozen? ⟨w_.heap.size, 1, none⟩ = false ∧
        (∃ u, ((w__1.setCell ⟨w_.heap.size, 0, none⟩ (.int .i64 t20_0_0)).setCell ⟨w_.heap.size, 1, none⟩ (.int .i64 t20_0_1)).cell? ⟨w_.heap.size, 2, none⟩ = some u) ∧
        ((w__1.setCell ⟨w_.heap.size, 0, none⟩ (.int .i64 t20_0_0)).setCell ⟨w_.heap.size, 1, none⟩ (.int .i64 t20_0_1)).frozen? ⟨w_.heap.size, 2, none⟩ = false ∧
        S4_k0 ⟨w.heap.size, 0, none⟩ ⟨w_.heap.size, 0, none⟩ t20_2 (((w__1.setCell ⟨w_.heap.size, 0, none⟩ (.int .i64 t20_0_0)).setCell ⟨w_.heap.size, 1, none⟩ (.int .i64 t20_0_1)).setCell ⟨w_.heap.size, 2, none⟩ (.string t20_0_2)) R
    ) (
      S4_k0 ⟨w.heap.size, 0, none⟩ ⟨w_.heap.size, 0, none⟩ t13_2 ((((w_.alloc (.cells ⟨[(.int .i64 0), (.int .i64 0), (.string (⟨#[]⟩ : ByteArray))]⟩ 25)).setCell ⟨w_.heap.size, 0, none⟩ (.int .i64 t13_0_0)).setCell ⟨w_.heap.size, 1, none⟩ (.int .i64 t13_0_1)).setCell ⟨w_.heap.size, 2, none⟩ (.string t13_0_2)) R
    )

theorem S4_eq (t : ByteArray) (w : World) (R : Value → World → Prop) : Eng.R Tryd.prog ⟨cal, S4_nx⟩ 33 S4_ann [] (Tryd.f4.body.getD .skip) (bodyQ Tryd.prog #[.cell 2 25, .tmp 3] R) (argE [(.string t)]) w = S4 t w R := by kernel_rfl
/-- A call of 'carfax/carfaxtop.floors', by its condition. -/
theorem S4_calls {t : ByteArray} {w : World} {R : Value → World → Prop} (hS : S4 t w R) : Ret Tryd.prog 4 [(.string t)] w R :=
  R_calls (C := ⟨cal, S4_nx⟩) cal_ok follows Tryd.func4 (c := Tryd.f4.body.getD .skip) (res := #[.cell 2 25, .tmp 3]) (n := 33) (by kernel_rfl) (by kernel_rfl) (by kernel_rfl) (by kernel_rfl) ((S4_eq t w R).mpr hS)

def S5_ann (p : List Nat) : Option LA :=
  none

def S5_nx (t : Nat) : Option (TypeId × TypeId) := none

def S5 (w : World) (R : Value → World → Prop) : Prop :=
  R (.pointer (some ⟨(w.alloc (.map #[] 0)).heap.size, 0, none⟩)) ((w.alloc (.map #[] 0)).alloc (.cells ⟨[(.map (some w.heap.size))]⟩ 44))

theorem S5_eq (w : World) (R : Value → World → Prop) : Eng.R Tryd.prog ⟨cal, S5_nx⟩ 4 S5_ann [] (Tryd.f5.body.getD .skip) (bodyQ Tryd.prog #[.tmp 0] R) (argE []) w = S5  w R := by kernel_rfl
/-- A call of 'carfax/window.New', by its condition. -/
theorem S5_calls {w : World} {R : Value → World → Prop} (hS : S5  w R) : Ret Tryd.prog 5 [] w R :=
  R_calls (C := ⟨cal, S5_nx⟩) cal_ok follows Tryd.func5 (c := Tryd.f5.body.getD .skip) (res := #[.tmp 0]) (n := 4) (by kernel_rfl) (by kernel_rfl) (by kernel_rfl) (by kernel_rfl) ((S5_eq  w R).mpr hS)

def S6_ann (p : List Nat) : Option LA :=
  none

def S6_nx (t : Nat) : Option (TypeId × TypeId) := none

def S6_k2 (t : Option Addr) (cell : Int) (w_ : Addr) (l_a : Option Addr) (l_l : Nat) (l_c : Nat) (at_ : Int) (w : World) (R : Value → World → Prop) : Prop :=
  ∃ (t47 : Addr),
  t = some t47 ∧
  ∃ (t53_0 : Int),
  w.drew.cell? w_ = some (.int .i64 t53_0) ∧
  ∃ (t53_1 : Int),
  w.drew.cell? (w_.add 1) = some (.int .i64 t53_1) ∧
  (
    ∃ (t49 : Option Nat),
    w.drew.cell? t47 = some (.map t49) ∧
    Calls Tryd.prog 12 ⟨[(.slice l_a l_l l_c), (.int .i64 at_), (.slice (some ⟨w.drew.heap.size, 0, none⟩) 1 1)]⟩ (w.drew.alloc (.cells ⟨[(.int .i64 t53_0), (.int .i64 t53_1)]⟩ 33)) fun e w__1 =>
      ∃ (t55_a : Option Addr) (t55_l : Nat) (t55_c : Nat),
      e = .returned (.slice t55_a t55_l t55_c) ∧
      ∃ (w__2 : World),
      (Instr.mapUpdate 42 (.map t49) (.int .i64 cell) (.slice t55_a t55_l t55_c)).run Tryd.prog w__1 = .ok () w__2 ∧
      R (.int .i64 0) w__2
  ) ∧
  (
    (
      ∃ (t49_1 : Option Nat),
      (w.drew.alloc (.cells ⟨[(.int .i64 t53_0), (.int .i64 t53_1)]⟩ 33)).cell? t47 = some (.map t49_1) ∧
      Calls Tryd.prog 12 ⟨[(.slice l_a l_l l_c), (.int .i64 at_), (.slice (some ⟨w.drew.heap.size, 0, none⟩) 1 1)]⟩ (w.drew.alloc (.cells ⟨[(.int .i64 t53_0), (.int .i64 t53_1)]⟩ 33)) fun e w__3 =>
        ∃ (t55_a_1 : Option Addr) (t55_l_1 : Nat) (t55_c_1 : Nat),
        e = .returned (.slice t55_a_1 t55_l_1 t55_c_1) ∧
        ∃ (w__4 : World),
        (Instr.mapUpdate 42 (.map t49_1) (.int .i64 cell) (.slice t55_a_1 t55_l_1 t55_c_1)).run Tryd.prog w__3 = .ok () w__4 ∧
        R (.int .i64 0) w__4
    ) ∧
    (
      Calls Tryd.prog 12 ⟨[(.slice l_a l_l l_c), (.int .i64 at_), (.slice (some ⟨w.drew.heap.size, 0, none⟩) 1 1)]⟩ (w.drew.alloc (.cells ⟨[(.int .i64 t53_0), (.int .i64 t53_1)]⟩ 33)) fun e w__5 =>
        ∃ (t55_a_2 : Option Addr) (t55_l_2 : Nat) (t55_c_2 : Nat),
        e = .returned (.slice t55_a_2 t55_l_2 t55_c_2) ∧
        ∃ (t49_2 : Option Nat),
        w__5.cell? t47 = some (.map t49_2) ∧
        ∃ (w__6 : World),
        (Instr.mapUpdate 42 (.map t49_2) (.int .i64 cell) (.slice t55_a_2 t55_l_2 t55_c_2)).run Tryd.prog w__5 = .ok () w__6 ∧
        R (.int .i64 0) w__6
    )
  )

def S6_k1 (t : Option Addr) (cell : Int) (w_ : Addr) (l_a : Option Addr) (l_l : Nat) (l_c : Nat) (at_ : Int) (t27 : Bool) (w : World) (R : Value → World → Prop) : Prop :=
  cond t27 (
    R (.int .i64 3) w
  ) (
    cond (decide ((4096 : Int) ≤ ((l_l : Nat) : Int))) (
      R (.int .i64 4) w
    ) (
      S6_k2 t cell w_ l_a l_l l_c at_ w R
    )
  )

def S6_k0 (t : Option Addr) (cell : Int) (w_ : Addr) (w : World) (R : Value → World → Prop) : Prop :=
  ∃ (t17 : Addr),
  t = some t17 ∧
  ∃ (t19 : Option Nat),
  w.cell? t17 = some (.map t19) ∧
  ∃ (t21_a : Option Addr) (t21_l : Nat) (t21_c : Nat) (w__1 : World),
  (Instr.lookup 42 (.map t19) (.int .i64 cell) false).run Tryd.prog w = .ok (.slice t21_a t21_l t21_c) w__1 ∧
  ∃ (t25 : Int),
  w__1.cell? w_ = some (.int .i64 t25) ∧
  Calls Tryd.prog 11 ⟨[(.pointer t), (.int .i64 cell), (.int .i64 t25)]⟩ w__1 fun e w__2 =>
    ∃ (t26 : Int),
    e = .returned (.int .i64 t26) ∧
    cond (decide ((t26 : Int) < ((t21_l : Nat) : Int))) (
      ∃ (t35 : Addr),
      t21_a = some t35 ∧
      0 ≤ (t26 : Int) ∧
      (t26 : Int) < ((t21_l : Nat) : Int) ∧
      ∃ (t37 : Int),
      w__2.drew.cell? (t35.add (Int.toNat t26 * 2)) = some (.int .i64 t37) ∧
      ∃ (t39 : Int),
      w__2.drew.cell? (w_.add 1) = some (.int .i64 t39) ∧
      S6_k1 t cell w_ t21_a t21_l t21_c t26 (decide ((t37 : Int) < t39)) w__2.drew R
    ) (
      S6_k1 t cell w_ t21_a t21_l t21_c t26 false w__2.drew R
    )

def S6 (t : Option Addr) (cell : Int) (w_0 : Int) (w_1 : Int) (w : World) (R : Value → World → Prop) : Prop :=
  cond (Option.isNone t) (
    R (.int .i64 2) (w.alloc (.cells ⟨[(.int .i64 w_0), (.int .i64 w_1)]⟩ 33))
  ) (
    ∃ (t13_0 : Int),
    (w.alloc (.cells ⟨[(.int .i64 w_0), (.int .i64 w_1)]⟩ 33)).cell? ⟨w.heap.size, 0, none⟩ = some (.int .i64 t13_0) ∧
    ∃ (t13_1 : Int),
    (w.alloc (.cells ⟨[(.int .i64 w_0), (.int .i64 w_1)]⟩ 33)).cell? ⟨w.heap.size, 1, none⟩ = some (.int .i64 t13_1) ∧
    Calls Tryd.prog 10 ⟨[(.agg ⟨[(.int .i64 t13_0), (.int .i64 t13_1)]⟩)]⟩ (w.alloc (.cells ⟨[(.int .i64 w_0), (.int .i64 w_1)]⟩ 33)) fun e w_ =>
      ∃ (t14 : Bool),
      e = .returned (.bool t14) ∧
      cond (!t14) (
        R (.int .i64 1) w_
      ) (
        S6_k0 t cell ⟨w.heap.size, 0, none⟩ w_ R
      )
  )

theorem S6_eq (t : Option Addr) (cell : Int) (w_0 : Int) (w_1 : Int) (w : World) (R : Value → World → Prop) : Eng.R Tryd.prog ⟨cal, S6_nx⟩ 56 S6_ann [] (Tryd.f6.body.getD .skip) (bodyQ Tryd.prog #[.tmp 6] R) (argE [(.pointer t), (.int .i64 cell), (.agg ⟨[(.int .i64 w_0), (.int .i64 w_1)]⟩)]) w = S6 t cell w_0 w_1 w R := by kernel_rfl
/-- A call of '(*carfax/window.Table).Take', by its condition. -/
theorem S6_calls {t : Option Addr} {cell : Int} {w_0 : Int} {w_1 : Int} {w : World} {R : Value → World → Prop} (hS : S6 t cell w_0 w_1 w R) : Ret Tryd.prog 6 [(.pointer t), (.int .i64 cell), (.agg ⟨[(.int .i64 w_0), (.int .i64 w_1)]⟩)] w R :=
  R_calls (C := ⟨cal, S6_nx⟩) cal_ok follows Tryd.func6 (c := Tryd.f6.body.getD .skip) (res := #[.tmp 6]) (n := 56) (by kernel_rfl) (by kernel_rfl) (by kernel_rfl) (by kernel_rfl) ((S6_eq t cell w_0 w_1 w R).mpr hS)

def S7_ann (p : List Nat) : Option LA :=
  none

def S7_nx (t : Nat) : Option (TypeId × TypeId) := none

def S7_k2 (t : Option Addr) (cell : Int) (at_ : Int) (w : World) (R : Value → World → Prop) : Prop :=
  ∃ (t21 : Addr),
  t = some t21 ∧
  ∃ (t26 : Addr),
  t = some t26 ∧
  ∃ (t28 : Option Nat),
  w.drew.cell? t26 = some (.map t28) ∧
  (
    ∃ (t23 : Option Nat),
    w.drew.cell? t21 = some (.map t23) ∧
    ∃ (t30_a : Option Addr) (t30_l : Nat) (t30_c : Nat) (w_ : World),
    (Instr.lookup 42 (.map t28) (.int .i64 cell) false).run Tryd.prog w.drew = .ok (.slice t30_a t30_l t30_c) w_ ∧
    Calls Tryd.prog 14 ⟨[(.slice t30_a t30_l t30_c), (.int .i64 at_), (.int .i64 (IntKind.i64.wrap (at_ + 1)))]⟩ w_ fun e w__1 =>
      ∃ (t34_a : Option Addr) (t34_l : Nat) (t34_c : Nat),
      e = .returned (.slice t34_a t34_l t34_c) ∧
      ∃ (w__2 : World),
      (Instr.mapUpdate 42 (.map t23) (.int .i64 cell) (.slice t34_a t34_l t34_c)).run Tryd.prog w__1 = .ok () w__2 ∧
      R (.int .i64 0) w__2
  ) ∧
  (
    ∃ (t30_a_1 : Option Addr) (t30_l_1 : Nat) (t30_c_1 : Nat) (w__3 : World),
    (Instr.lookup 42 (.map t28) (.int .i64 cell) false).run Tryd.prog w.drew = .ok (.slice t30_a_1 t30_l_1 t30_c_1) w__3 ∧
    (
      ∃ (t23_1 : Option Nat),
      w__3.cell? t21 = some (.map t23_1) ∧
      Calls Tryd.prog 14 ⟨[(.slice t30_a_1 t30_l_1 t30_c_1), (.int .i64 at_), (.int .i64 (IntKind.i64.wrap (at_ + 1)))]⟩ w__3 fun e w__4 =>
        ∃ (t34_a_1 : Option Addr) (t34_l_1 : Nat) (t34_c_1 : Nat),
        e = .returned (.slice t34_a_1 t34_l_1 t34_c_1) ∧
        ∃ (w__5 : World),
        (Instr.mapUpdate 42 (.map t23_1) (.int .i64 cell) (.slice t34_a_1 t34_l_1 t34_c_1)).run Tryd.prog w__4 = .ok () w__5 ∧
        R (.int .i64 0) w__5
    ) ∧
    (
      Calls Tryd.prog 14 ⟨[(.slice t30_a_1 t30_l_1 t30_c_1), (.int .i64 at_), (.int .i64 (IntKind.i64.wrap (at_ + 1)))]⟩ w__3 fun e w__6 =>
        ∃ (t34_a_2 : Option Addr) (t34_l_2 : Nat) (t34_c_2 : Nat),
        e = .returned (.slice t34_a_2 t34_l_2 t34_c_2) ∧
        ∃ (t23_2 : Option Nat),
        w__6.cell? t21 = some (.map t23_2) ∧
        ∃ (w__7 : World),
        (Instr.mapUpdate 42 (.map t23_2) (.int .i64 cell) (.slice t34_a_2 t34_l_2 t34_c_2)).run Tryd.prog w__6 = .ok () w__7 ∧
        R (.int .i64 0) w__7
    )
  )

def S7_k1 (t : Option Addr) (cell : Int) (at_ : Int) (w : World) (R : Value → World → Prop) : Prop :=
  cond (decide ((at_ : Int) < 0)) (
    R (.int .i64 2) w
  ) (
    S7_k2 t cell at_ w R
  )

def S7_k0 (t : Option Addr) (cell : Int) (w_ : Addr) (w : World) (R : Value → World → Prop) : Prop :=
  ∃ (t11 : Addr),
  t = some t11 ∧
  ∃ (t13 : Option Nat),
  w.drew.cell? t11 = some (.map t13) ∧
  (
    ∃ (t15_a : Option Addr) (t15_l : Nat) (t15_c : Nat) (w__1 : World),
    (Instr.lookup 42 (.map t13) (.int .i64 cell) false).run Tryd.prog w.drew = .ok (.slice t15_a t15_l t15_c) w__1 ∧
    ∃ (t16_0 : Int),
    w__1.cell? w_ = some (.int .i64 t16_0) ∧
    ∃ (t16_1 : Int),
    w__1.cell? (w_.add 1) = some (.int .i64 t16_1) ∧
    Calls Tryd.prog 13 ⟨[(.slice t15_a t15_l t15_c), (.agg ⟨[(.int .i64 t16_0), (.int .i64 t16_1)]⟩)]⟩ w__1 fun e w__2 =>
      ∃ (t17 : Int),
      e = .returned (.int .i64 t17) ∧
      S7_k1 t cell t17 w__2 R
  ) ∧
  (
    ∃ (t16_0_1 : Int),
    w.drew.cell? w_ = some (.int .i64 t16_0_1) ∧
    ∃ (t16_1_1 : Int),
    w.drew.cell? (w_.add 1) = some (.int .i64 t16_1_1) ∧
    ∃ (t15_a_1 : Option Addr) (t15_l_1 : Nat) (t15_c_1 : Nat) (w__3 : World),
    (Instr.lookup 42 (.map t13) (.int .i64 cell) false).run Tryd.prog w.drew = .ok (.slice t15_a_1 t15_l_1 t15_c_1) w__3 ∧
    Calls Tryd.prog 13 ⟨[(.slice t15_a_1 t15_l_1 t15_c_1), (.agg ⟨[(.int .i64 t16_0_1), (.int .i64 t16_1_1)]⟩)]⟩ w__3 fun e w__4 =>
      ∃ (t17_1 : Int),
      e = .returned (.int .i64 t17_1) ∧
      S7_k1 t cell t17_1 w__4 R
  )

def S7 (t : Option Addr) (cell : Int) (w_0 : Int) (w_1 : Int) (w : World) (R : Value → World → Prop) : Prop :=
  cond (Option.isNone t) (
    R (.int .i64 2) (w.alloc (.cells ⟨[(.int .i64 w_0), (.int .i64 w_1)]⟩ 33))
  ) (
    S7_k0 t cell ⟨w.heap.size, 0, none⟩ (w.alloc (.cells ⟨[(.int .i64 w_0), (.int .i64 w_1)]⟩ 33)) R
  )

theorem S7_eq (t : Option Addr) (cell : Int) (w_0 : Int) (w_1 : Int) (w : World) (R : Value → World → Prop) : Eng.R Tryd.prog ⟨cal, S7_nx⟩ 35 S7_ann [] (Tryd.f7.body.getD .skip) (bodyQ Tryd.prog #[.tmp 6] R) (argE [(.pointer t), (.int .i64 cell), (.agg ⟨[(.int .i64 w_0), (.int .i64 w_1)]⟩)]) w = S7 t cell w_0 w_1 w R := by kernel_rfl
/-- A call of '(*carfax/window.Table).Drop', by its condition. -/
theorem S7_calls {t : Option Addr} {cell : Int} {w_0 : Int} {w_1 : Int} {w : World} {R : Value → World → Prop} (hS : S7 t cell w_0 w_1 w R) : Ret Tryd.prog 7 [(.pointer t), (.int .i64 cell), (.agg ⟨[(.int .i64 w_0), (.int .i64 w_1)]⟩)] w R :=
  R_calls (C := ⟨cal, S7_nx⟩) cal_ok follows Tryd.func7 (c := Tryd.f7.body.getD .skip) (res := #[.tmp 6]) (n := 35) (by kernel_rfl) (by kernel_rfl) (by kernel_rfl) (by kernel_rfl) ((S7_eq t cell w_0 w_1 w R).mpr hS)

def S8_ann (p : List Nat) : Option LA := match p with
  | [0, 1, 0, 1, 1, 1, 1, 1, 1, 1, 1, 1] => some ⟨[2, 14, 17], [(16, .one (.int .i64)), (18, .one .slice), (19, .one (.int .i64))]⟩
  | _ => none

def S8_nx (t : Nat) : Option (TypeId × TypeId) := none

def S8_k6 (from_ : Int) (s_ : Option Addr) (now : Int) (since : Addr) (out_a : Option Addr) (out_l : Nat) (out_c : Nat) (at_ : Int) (w : World) (R : Value → World → Prop) (B1 : (Int) × (Option Addr × Nat × Nat) × (Int) × Unit → World → Prop) : Prop :=
  Calls Tryd.prog 20 ⟨[(.pointer s_), (.int .i64 at_), (.int .i64 now)]⟩ w fun e w_ =>
    ∃ (t82 : Int),
    e = .returned (.int .i64 t82) ∧
    cond (decide ((0 : Int) ≤ t82)) (
      ∃ (t90_a : Option Addr) (t90_l : Nat) (t90_c : Nat) (w__1 : World),
      (Builtin.append_ #[34, 34] 34 ⟨[(.slice out_a out_l out_c), (.slice (some ⟨w_.heap.size, 0, none⟩) 1 1)]⟩).run Tryd.prog (w_.alloc (.cells ⟨[(.int .i64 at_), (.int .i64 now)]⟩ 38)) = .ok (.slice t90_a t90_l t90_c) w__1 ∧
      B1 ((IntKind.i64.wrap (now - 1)), (t90_a, t90_l, t90_c), t82, ()) w__1
    ) (
      B1 ((IntKind.i64.wrap (now - 1)), (out_a, out_l, out_c), at_, ()) w_
    )

def S8_k5 (from_ : Int) (s_ : Option Addr) (now : Int) (since : Addr) (out_a : Option Addr) (out_l : Nat) (out_c : Nat) (at_ : Int) (t76 : Bool) (w : World) (R : Value → World → Prop) (B1 : (Int) × (Option Addr × Nat × Nat) × (Int) × Unit → World → Prop) : Prop :=
  cond t76 (
    S8_k6 from_ s_ now since out_a out_l out_c at_ w R B1
  ) (
    Calls Tryd.prog 21 ⟨[(.slice out_a out_l out_c)]⟩ w fun e w_ =>
      e = .returned (.tuple ⟨[]⟩) ∧
      R (.tuple ⟨[(.slice out_a out_l out_c), (.int .i64 0)]⟩) w_
  )

def S8_L4 (from_ : Int) (s_ : Option Addr) (now : Int) (since : Addr) (out_a : Option Addr) (out_l : Nat) (out_c : Nat) (at_ : Int) (w : World) (R : Value → World → Prop) (B1 : (Int) × (Option Addr × Nat × Nat) × (Int) × Unit → World → Prop) : Prop :=
  cond (!decide ((at_ : Int) = from_)) (
    S8_k5 from_ s_ now since out_a out_l out_c at_ true w R B1
  ) (
    ∃ (t74 : Int),
    w.cell? (since.add 2) = some (.int .i64 t74) ∧
    S8_k5 from_ s_ now since out_a out_l out_c at_ (decide ((t74 : Int) ≤ now)) w R B1
  )

def S8_k3 (from_ : Int) (to : Int) (s_ : Option Addr) (now : Int) (w : World) (R : Value → World → Prop) : Prop :=
  Calls Tryd.prog 19 ⟨[(.pointer s_)]⟩ w fun e w_ =>
    ∃ (t66_0 : Int) (t66_1 : Int) (t66_2 : Int),
    e = .returned (.agg ⟨[(.int .i64 t66_0), (.int .i64 t66_1), (.int .i64 t66_2)]⟩) ∧
    (∃ u, (w_.alloc (.cells ⟨[(.int .i64 0), (.int .i64 0), (.int .i64 0)]⟩ 58)).cell? ⟨w_.heap.size, 0, none⟩ = some u) ∧
    (w_.alloc (.cells ⟨[(.int .i64 0), (.int .i64 0), (.int .i64 0)]⟩ 58)).frozen? ⟨w_.heap.size, 0, none⟩ = false ∧
    (∃ u, ((w_.alloc (.cells ⟨[(.int .i64 0), (.int .i64 0), (.int .i64 0)]⟩ 58)).setCell ⟨w_.heap.size, 0, none⟩ (.int .i64 t66_0)).cell? ⟨w_.heap.size, 1, none⟩ = some u) ∧
    ((w_.alloc (.cells ⟨[(.int .i64 0), (.int .i64 0), (.int .i64 0)]⟩ 58)).setCell ⟨w_.heap.size, 0, none⟩ (.int .i64 t66_0)).frozen? ⟨w_.heap.size, 1, none⟩ = false ∧
    (∃ u, (((w_.alloc (.cells ⟨[(.int .i64 0), (.int .i64 0), (.int .i64 0)]⟩ 58)).setCell ⟨w_.heap.size, 0, none⟩ (.int .i64 t66_0)).setCell ⟨w_.heap.size, 1, none⟩ (.int .i64 t66_1)).cell? ⟨w_.heap.size, 2, none⟩ = some u) ∧
    (((w_.alloc (.cells ⟨[(.int .i64 0), (.int .i64 0), (.int .i64 0)]⟩ 58)).setCell ⟨w_.heap.size, 0, none⟩ (.int .i64 t66_0)).setCell ⟨w_.heap.size, 1, none⟩ (.int .i64 t66_1)).frozen? ⟨w_.heap.size, 2, none⟩ = false ∧
    ∃ (I : (Int) × (Option Addr × Nat × Nat) × (Int) × Unit → World → Prop) (μ : (Int) × (Option Addr × Nat × Nat) × (Int) × Unit → World → Nat),
    I (now, (none, 0, 0), to, ()) ((((w_.alloc (.cells ⟨[(.int .i64 0), (.int .i64 0), (.int .i64 0)]⟩ 58)).setCell ⟨w_.heap.size, 0, none⟩ (.int .i64 t66_0)).setCell ⟨w_.heap.size, 1, none⟩ (.int .i64 t66_1)).setCell ⟨w_.heap.size, 2, none⟩ (.int .i64 t66_2)) ∧
    ∀ (J : Env) (s : (Int) × (Option Addr × Nat × Nat) × (Int) × Unit) (w' : World), I s w' →
      S8_L4 from_ s_ s.1 ⟨w_.heap.size, 0, none⟩ s.2.1.1 s.2.1.2.1 s.2.1.2.2 s.2.2.1 w' R (fun s' w'' => I s' w'' ∧ μ s' w'' < μ s w')

def S8_k2 (from_ : Int) (to : Int) (ahead : Int) (s_ : Option Addr) (w : World) (R : Value → World → Prop) : Prop :=
  Calls Tryd.prog 17 ⟨[(.pointer s_), (.int .i64 ahead)]⟩ w fun e w_ =>
    e = .returned (.tuple ⟨[]⟩) ∧
    Calls Tryd.prog 18 ⟨[(.pointer s_), (.int .i64 to)]⟩ w_ fun e w__1 =>
      ∃ (t62 : Int),
      e = .returned (.int .i64 t62) ∧
      cond (decide ((t62 : Int) < 0)) (
        R (.tuple ⟨[(.slice none 0 0), (.int .i64 2)]⟩) w__1
      ) (
        S8_k3 from_ to s_ t62 w__1 R
      )

def S8_k1 (from_ : Int) (to : Int) (ahead : Int) (s_ : Option Addr) (w : World) (R : Value → World → Prop) : Prop :=
  cond (decide ((to : Int) = from_)) (
    R (.tuple ⟨[(.slice none 0 0), (.int .i64 0)]⟩) w
  ) (
    S8_k2 from_ to ahead s_ w R
  )

def S8_k0 (from_ : Int) (to : Int) (ahead : Int) (s_ : Option Addr) (t53 : Bool) (w : World) (R : Value → World → Prop) : Prop :=
  cond t53 (
    R (.tuple ⟨[(.slice none 0 0), (.int .i64 1)]⟩) w
  ) (
    S8_k1 from_ to ahead s_ w R
  )

def S8 (f_0 : Int) (f_1 : Int) (f_2 : ByteArray) (t : Option Addr) (from_ : Int) (start : Int) (to : Int) (ahead : Int) (w : World) (R : Value → World → Prop) : Prop :=
  ∃ (t22_0 : Int),
  (w.alloc (.cells ⟨[(.int .i64 f_0), (.int .i64 f_1), (.string f_2)]⟩ 25)).cell? ⟨w.heap.size, 0, none⟩ = some (.int .i64 t22_0) ∧
  ∃ (t22_1 : Int),
  (w.alloc (.cells ⟨[(.int .i64 f_0), (.int .i64 f_1), (.string f_2)]⟩ 25)).cell? ⟨w.heap.size, 1, none⟩ = some (.int .i64 t22_1) ∧
  ∃ (t22_2 : ByteArray),
  (w.alloc (.cells ⟨[(.int .i64 f_0), (.int .i64 f_1), (.string f_2)]⟩ 25)).cell? ⟨w.heap.size, 2, none⟩ = some (.string t22_2) ∧
  Calls Tryd.prog 15 ⟨[(.agg ⟨[(.int .i64 t22_0), (.int .i64 t22_1), (.string t22_2)]⟩), (.pointer t), (.int .i64 from_), (.int .i64 start)]⟩ (w.alloc (.cells ⟨[(.int .i64 f_0), (.int .i64 f_1), (.string f_2)]⟩ 25)) fun e w_ =>
    ∃ (t26_0 : Option Addr) (t26_1 : Bool),
    e = .returned (.tuple ⟨[(.pointer t26_0), (.bool t26_1)]⟩) ∧
    cond (!t26_1) (
      S8_k0 from_ to ahead t26_0 true w_ R
    ) (
      Calls Tryd.prog 16 ⟨[(.int .i64 ahead)]⟩ w_ fun e w__1 =>
        ∃ (t33 : Bool),
        e = .returned (.bool t33) ∧
        cond (!t33) (
          S8_k0 from_ to ahead t26_0 true w__1 R
        ) (
          cond (decide ((to : Int) < 0)) (
            S8_k0 from_ to ahead t26_0 true w__1 R
          ) (
            ∃ (t43 : ByteArray),
            w__1.cell? ⟨w.heap.size, 2, none⟩ = some (.string t43) ∧
            cond (decide ((((ByteArray.size t43 : Nat) : Int) : Int) ≤ to)) (
              S8_k0 from_ to ahead t26_0 true w__1 R
            ) (
              ∃ (t49 : ByteArray),
              w__1.cell? ⟨w.heap.size, 2, none⟩ = some (.string t49) ∧
              ∃ (t51 : UInt8),
              0 ≤ (to : Int) ∧
              (t49)[Int.toNat to]? = some t51 ∧
              S8_k0 from_ to ahead t26_0 (decide (((t51.toNat : Int) : Int) = 35)) w__1 R
            )
          )
        )
    )

theorem S8_eq (f_0 : Int) (f_1 : Int) (f_2 : ByteArray) (t : Option Addr) (from_ : Int) (start : Int) (to : Int) (ahead : Int) (w : World) (R : Value → World → Prop) : Eng.R Tryd.prog ⟨cal, S8_nx⟩ 95 S8_ann [] (Tryd.f8.body.getD .skip) (bodyQ Tryd.prog #[.tmp 12, .tmp 13] R) (argE [(.agg ⟨[(.int .i64 f_0), (.int .i64 f_1), (.string f_2)]⟩), (.pointer t), (.int .i64 from_), (.int .i64 start), (.int .i64 to), (.int .i64 ahead)]) w = S8 f_0 f_1 f_2 t from_ start to ahead w R := by kernel_rfl
/-- A call of 'carfax/sipp.Plan', by its condition. -/
theorem S8_calls {f_0 : Int} {f_1 : Int} {f_2 : ByteArray} {t : Option Addr} {from_ : Int} {start : Int} {to : Int} {ahead : Int} {w : World} {R : Value → World → Prop} (hS : S8 f_0 f_1 f_2 t from_ start to ahead w R) : Ret Tryd.prog 8 [(.agg ⟨[(.int .i64 f_0), (.int .i64 f_1), (.string f_2)]⟩), (.pointer t), (.int .i64 from_), (.int .i64 start), (.int .i64 to), (.int .i64 ahead)] w R :=
  R_calls (C := ⟨cal, S8_nx⟩) cal_ok follows Tryd.func8 (c := Tryd.f8.body.getD .skip) (res := #[.tmp 12, .tmp 13]) (n := 95) (by kernel_rfl) (by kernel_rfl) (by kernel_rfl) (by kernel_rfl) ((S8_eq f_0 f_1 f_2 t from_ start to ahead w R).mpr hS)

def S9_ann (p : List Nat) : Option LA := match p with
  | [0, 1, 0, 1, 1, 1] => some ⟨[2, 5, 23, 24], [(25, .one (.int .i64))]⟩
  | _ => none

def S9_nx (t : Nat) : Option (TypeId × TypeId) := none

def S9_k2 (t2 : Addr) (rows_a : Option Addr) (rows_l : Nat) (rows_c : Nat) (t23_a : Option Addr) (t23_l : Nat) (t23_c : Nat) (t24 : Int) (t25 : Int) (w : World) (R : Value → World → Prop) (B1 : (Int) × Unit → World → Prop) : Prop :=
  ∃ (t28 : Addr),
  t23_a = some t28 ∧
  0 ≤ (t25 : Int) ∧
  (t25 : Int) < ((t23_l : Nat) : Int) ∧
  ∃ (t29 : ByteArray),
  w.cell? (t28.add (Int.toNat t25 * 1)) = some (.string t29) ∧
  ∃ (t32 : Addr),
  rows_a = some t32 ∧
  0 ≤ (0 : Int) ∧
  (0 : Int) < ((rows_l : Nat) : Int) ∧
  ∃ (t33 : ByteArray),
  w.cell? (t32.add (Int.toNat 0 * 1)) = some (.string t33) ∧
  Calls Tryd.prog 23 ⟨[(.string t29), (.string t33), (.int .i64 t25)]⟩ w fun e w_ =>
    ∃ (t35 : Bool),
    e = .returned (.bool t35) ∧
    cond (!t35) (
      (∃ u, w_.cell? t2 = some u) ∧
      w_.frozen? t2 = false ∧
      (∃ u, (w_.setCell t2 (.int .i64 0)).cell? (t2.add 1) = some u) ∧
      (w_.setCell t2 (.int .i64 0)).frozen? (t2.add 1) = false ∧
      (∃ u, ((w_.setCell t2 (.int .i64 0)).setCell (t2.add 1) (.int .i64 0)).cell? (t2.add 2) = some u) ∧
      ((w_.setCell t2 (.int .i64 0)).setCell (t2.add 1) (.int .i64 0)).frozen? (t2.add 2) = false ∧
      ∃ (t2_0 : Int),
      (((w_.setCell t2 (.int .i64 0)).setCell (t2.add 1) (.int .i64 0)).setCell (t2.add 2) (.string (⟨#[]⟩ : ByteArray))).cell? t2 = some (.int .i64 t2_0) ∧
      ∃ (t2_1 : Int),
      (((w_.setCell t2 (.int .i64 0)).setCell (t2.add 1) (.int .i64 0)).setCell (t2.add 2) (.string (⟨#[]⟩ : ByteArray))).cell? (t2.add 1) = some (.int .i64 t2_1) ∧
      ∃ (t2_2 : ByteArray),
      (((w_.setCell t2 (.int .i64 0)).setCell (t2.add 1) (.int .i64 0)).setCell (t2.add 2) (.string (⟨#[]⟩ : ByteArray))).cell? (t2.add 2) = some (.string t2_2) ∧
      R (.tuple ⟨[(.agg ⟨[(.int .i64 t2_0), (.int .i64 t2_1), (.string t2_2)]⟩), (.int .i64 t25), (.int .i64 30)]⟩) (((w_.setCell t2 (.int .i64 0)).setCell (t2.add 1) (.int .i64 0)).setCell (t2.add 2) (.string (⟨#[]⟩ : ByteArray)))
    ) (
      B1 ((IntKind.i64.wrap (t25 + 1)), ()) w_
    )

def S9_k6 (t2 : Addr) (f : Addr) (w : World) (R : Value → World → Prop) : Prop :=
  ∃ (t59_0 : Int),
  w.cell? f = some (.int .i64 t59_0) ∧
  ∃ (t59_1 : Int),
  w.cell? (f.add 1) = some (.int .i64 t59_1) ∧
  ∃ (t59_2 : ByteArray),
  w.cell? (f.add 2) = some (.string t59_2) ∧
  (∃ u, w.cell? t2 = some u) ∧
  w.frozen? t2 = false ∧
  (∃ u, (w.setCell t2 (.int .i64 t59_0)).cell? (t2.add 1) = some u) ∧
  (w.setCell t2 (.int .i64 t59_0)).frozen? (t2.add 1) = false ∧
  (∃ u, ((w.setCell t2 (.int .i64 t59_0)).setCell (t2.add 1) (.int .i64 t59_1)).cell? (t2.add 2) = some u) ∧
  ((w.setCell t2 (.int .i64 t59_0)).setCell (t2.add 1) (.int .i64 t59_1)).frozen? (t2.add 2) = false ∧
  ∃ (t2_0 : Int),
  (((w.setCell t2 (.int .i64 t59_0)).setCell (t2.add 1) (.int .i64 t59_1)).setCell (t2.add 2) (.string t59_2)).cell? t2 = some (.int .i64 t2_0) ∧
  ∃ (t2_1 : Int),
  (((w.setCell t2 (.int .i64 t59_0)).setCell (t2.add 1) (.int .i64 t59_1)).setCell (t2.add 2) (.string t59_2)).cell? (t2.add 1) = some (.int .i64 t2_1) ∧
  ∃ (t2_2 : ByteArray),
  (((w.setCell t2 (.int .i64 t59_0)).setCell (t2.add 1) (.int .i64 t59_1)).setCell (t2.add 2) (.string t59_2)).cell? (t2.add 2) = some (.string t2_2) ∧
  R (.tuple ⟨[(.agg ⟨[(.int .i64 t2_0), (.int .i64 t2_1), (.string t2_2)]⟩), (.int .i64 0), (.int .i64 0)]⟩) (((w.setCell t2 (.int .i64 t59_0)).setCell (t2.add 1) (.int .i64 t59_1)).setCell (t2.add 2) (.string t59_2))

def S9_k5 (t2 : Addr) (rows_a : Option Addr) (rows_l : Nat) (rows_c : Nat) (f : Addr) (w : World) (R : Value → World → Prop) : Prop :=
  ∃ (t53_0 : Int),
  w.cell? f = some (.int .i64 t53_0) ∧
  ∃ (t53_1 : Int),
  w.cell? (f.add 1) = some (.int .i64 t53_1) ∧
  ∃ (t53_2 : ByteArray),
  w.cell? (f.add 2) = some (.string t53_2) ∧
  Calls Tryd.prog 25 ⟨[(.agg ⟨[(.int .i64 t53_0), (.int .i64 t53_1), (.string t53_2)]⟩)]⟩ w fun e w_ =>
    ∃ (t54 : Bool),
    e = .returned (.bool t54) ∧
    cond (!t54) (
      (∃ u, w_.cell? t2 = some u) ∧
      w_.frozen? t2 = false ∧
      (∃ u, (w_.setCell t2 (.int .i64 0)).cell? (t2.add 1) = some u) ∧
      (w_.setCell t2 (.int .i64 0)).frozen? (t2.add 1) = false ∧
      (∃ u, ((w_.setCell t2 (.int .i64 0)).setCell (t2.add 1) (.int .i64 0)).cell? (t2.add 2) = some u) ∧
      ((w_.setCell t2 (.int .i64 0)).setCell (t2.add 1) (.int .i64 0)).frozen? (t2.add 2) = false ∧
      ∃ (t2_0 : Int),
      (((w_.setCell t2 (.int .i64 0)).setCell (t2.add 1) (.int .i64 0)).setCell (t2.add 2) (.string (⟨#[]⟩ : ByteArray))).cell? t2 = some (.int .i64 t2_0) ∧
      ∃ (t2_1 : Int),
      (((w_.setCell t2 (.int .i64 0)).setCell (t2.add 1) (.int .i64 0)).setCell (t2.add 2) (.string (⟨#[]⟩ : ByteArray))).cell? (t2.add 1) = some (.int .i64 t2_1) ∧
      ∃ (t2_2 : ByteArray),
      (((w_.setCell t2 (.int .i64 0)).setCell (t2.add 1) (.int .i64 0)).setCell (t2.add 2) (.string (⟨#[]⟩ : ByteArray))).cell? (t2.add 2) = some (.string t2_2) ∧
      R (.tuple ⟨[(.agg ⟨[(.int .i64 t2_0), (.int .i64 t2_1), (.string t2_2)]⟩), (.int .i64 ((rows_l : Nat) : Int)), (.int .i64 30)]⟩) (((w_.setCell t2 (.int .i64 0)).setCell (t2.add 1) (.int .i64 0)).setCell (t2.add 2) (.string (⟨#[]⟩ : ByteArray)))
    ) (
      S9_k6 t2 f w_ R
    )

def S9_k4 (t2 : Addr) (rows_a : Option Addr) (rows_l : Nat) (rows_c : Nat) (w : World) (R : Value → World → Prop) : Prop :=
  ∃ (t45 : Addr),
  rows_a = some t45 ∧
  0 ≤ (0 : Int) ∧
  (0 : Int) < ((rows_l : Nat) : Int) ∧
  (
    ∃ (t46 : ByteArray),
    w.drew.cell? (t45.add (Int.toNat 0 * 1)) = some (.string t46) ∧
    (
      Calls Tryd.prog 24 ⟨[(.slice rows_a rows_l rows_c), (.string (⟨#[]⟩ : ByteArray))]⟩ w.drew fun e w_ =>
        ∃ (t51 : ByteArray),
        e = .returned (.string t51) ∧
        (∃ u, (w_.alloc (.cells ⟨[(.int .i64 0), (.int .i64 0), (.string (⟨#[]⟩ : ByteArray))]⟩ 25)).cell? ⟨w_.heap.size, 0, none⟩ = some u) ∧
        (w_.alloc (.cells ⟨[(.int .i64 0), (.int .i64 0), (.string (⟨#[]⟩ : ByteArray))]⟩ 25)).frozen? ⟨w_.heap.size, 0, none⟩ = false ∧
        (∃ u, ((w_.alloc (.cells ⟨[(.int .i64 0), (.int .i64 0), (.string (⟨#[]⟩ : ByteArray))]⟩ 25)).setCell ⟨w_.heap.size, 0, none⟩ (.int .i64 ((ByteArray.size t46 : Nat) : Int))).cell? ⟨w_.heap.size, 1, none⟩ = some u) ∧
        ((w_.alloc (.cells ⟨[(.int .i64 0), (.int .i64 0), (.string (⟨#[]⟩ : ByteArray))]⟩ 25)).setCell ⟨w_.heap.size, 0, none⟩ (.int .i64 ((ByteArray.size t46 : Nat) : Int))).frozen? ⟨w_.heap.size, 1, none⟩ = false ∧
        (∃ u, (((w_.alloc (.cells ⟨[(.int .i64 0), (.int .i64 0), (.string (⟨#[]⟩ : ByteArray))]⟩ 25)).setCell ⟨w_.heap.size, 0, none⟩ (.int .i64 ((ByteArray.size t46 : Nat) : Int))).setCell ⟨w_.heap.size, 1, none⟩ (.int .i64 ((rows_l : Nat) : Int))).cell? ⟨w_.heap.size, 2, none⟩ = some u) ∧
        (((w_.alloc (.cells ⟨[(.int .i64 0), (.int .i64 0), (.string (⟨#[]⟩ : ByteArray))]⟩ 25)).setCell ⟨w_.heap.size, 0, none⟩ (.int .i64 ((ByteArray.size t46 : Nat) : Int))).setCell ⟨w_.heap.size, 1, none⟩ (.int .i64 ((rows_l : Nat) : Int))).frozen? ⟨w_.heap.size, 2, none⟩ = false ∧
        S9_k5 t2 rows_a rows_l rows_c ⟨w_.heap.size, 0, none⟩ ((((w_.alloc (.cells ⟨[(.int .i64 0), (.int .i64 0), (.string (⟨#[]⟩ : ByteArray))]⟩ 25)).setCell ⟨w_.heap.size, 0, none⟩ (.int .i64 ((ByteArray.size t46 : Nat) : Int))).setCell ⟨w_.heap.size, 1, none⟩ (.int .i64 ((rows_l : Nat) : Int))).setCell ⟨w_.heap.size, 2, none⟩ (.string t51)) R
    ) ∧
    (
      Calls Tryd.prog 24 ⟨[(.slice rows_a rows_l rows_c), (.string (⟨#[]⟩ : ByteArray))]⟩ (w.drew.alloc (.cells ⟨[(.int .i64 0), (.int .i64 0), (.string (⟨#[]⟩ : ByteArray))]⟩ 25)) fun e w__1 =>
        ∃ (t51_1 : ByteArray),
        e = .returned (.string t51_1) ∧
        (∃ u, w__1.cell? ⟨w.drew.heap.size, 0, none⟩ = some u) ∧
        w__1.frozen? ⟨w.drew.heap.size, 0, none⟩ = false ∧
        (∃ u, (w__1.setCell ⟨w.drew.heap.size, 0, none⟩ (.int .i64 ((ByteArray.size t46 : Nat) : Int))).cell? ⟨w.drew.heap.size, 1, none⟩ = some u) ∧
        (w__1.setCell ⟨w.drew.heap.size, 0, none⟩ (.int .i64 ((ByteArray.size t46 : Nat) : Int))).frozen? ⟨w.drew.heap.size, 1, none⟩ = false ∧
        (∃ u, ((w__1.setCell ⟨w.drew.heap.size, 0, none⟩ (.int .i64 ((ByteArray.size t46 : Nat) : Int))).setCell ⟨w.drew.heap.size, 1, none⟩ (.int .i64 ((rows_l : Nat) : Int))).cell? ⟨w.drew.heap.size, 2, none⟩ = some u) ∧
        ((w__1.setCell ⟨w.drew.heap.size, 0, none⟩ (.int .i64 ((ByteArray.size t46 : Nat) : Int))).setCell ⟨w.drew.heap.size, 1, none⟩ (.int .i64 ((rows_l : Nat) : Int))).frozen? ⟨w.drew.heap.size, 2, none⟩ = false ∧
        S9_k5 t2 rows_a rows_l rows_c ⟨w.drew.heap.size, 0, none⟩ (((w__1.setCell ⟨w.drew.heap.size, 0, none⟩ (.int .i64 ((ByteArray.size t46 : Nat) : Int))).setCell ⟨w.drew.heap.size, 1, none⟩ (.int .i64 ((rows_l : Nat) : Int))).setCell ⟨w.drew.heap.size, 2, none⟩ (.string t51_1)) R
    )
  ) ∧
  (
    Calls Tryd.prog 24 ⟨[(.slice rows_a rows_l rows_c), (.string (⟨#[]⟩ : ByteArray))]⟩ w.drew fun e w__2 =>
      ∃ (t51_2 : ByteArray),
      e = .returned (.string t51_2) ∧
      ∃ (t46_1 : ByteArray),
      w__2.cell? (t45.add (Int.toNat 0 * 1)) = some (.string t46_1) ∧
      (∃ u, (w__2.alloc (.cells ⟨[(.int .i64 0), (.int .i64 0), (.string (⟨#[]⟩ : ByteArray))]⟩ 25)).cell? ⟨w__2.heap.size, 0, none⟩ = some u) ∧
      (w__2.alloc (.cells ⟨[(.int .i64 0), (.int .i64 0), (.string (⟨#[]⟩ : ByteArray))]⟩ 25)).frozen? ⟨w__2.heap.size, 0, none⟩ = false ∧
      (∃ u, ((w__2.alloc (.cells ⟨[(.int .i64 0), (.int .i64 0), (.string (⟨#[]⟩ : ByteArray))]⟩ 25)).setCell ⟨w__2.heap.size, 0, none⟩ (.int .i64 ((ByteArray.size t46_1 : Nat) : Int))).cell? ⟨w__2.heap.size, 1, none⟩ = some u) ∧
      ((w__2.alloc (.cells ⟨[(.int .i64 0), (.int .i64 0), (.string (⟨#[]⟩ : ByteArray))]⟩ 25)).setCell ⟨w__2.heap.size, 0, none⟩ (.int .i64 ((ByteArray.size t46_1 : Nat) : Int))).frozen? ⟨w__2.heap.size, 1, none⟩ = false ∧
      (∃ u, (((w__2.alloc (.cells ⟨[(.int .i64 0), (.int .i64 0), (.string (⟨#[]⟩ : ByteArray))]⟩ 25)).setCell ⟨w__2.heap.size, 0, none⟩ (.int .i64 ((ByteArray.size t46_1 : Nat) : Int))).setCell ⟨w__2.heap.size, 1, none⟩ (.int .i64 ((rows_l : Nat) : Int))).cell? ⟨w__2.heap.size, 2, none⟩ = some u) ∧
      (((w__2.alloc (.cells ⟨[(.int .i64 0), (.int .i64 0), (.string (⟨#[]⟩ : ByteArray))]⟩ 25)).setCell ⟨w__2.heap.size, 0, none⟩ (.int .i64 ((ByteArray.size t46_1 : Nat) : Int))).setCell ⟨w__2.heap.size, 1, none⟩ (.int .i64 ((rows_l : Nat) : Int))).frozen? ⟨w__2.heap.size, 2, none⟩ = false ∧
      S9_k5 t2 rows_a rows_l rows_c ⟨w__2.heap.size, 0, none⟩ ((((w__2.alloc (.cells ⟨[(.int .i64 0), (.int .i64 0), (.string (⟨#[]⟩ : ByteArray))]⟩ 25)).setCell ⟨w__2.heap.size, 0, none⟩ (.int .i64 ((ByteArray.size t46_1 : Nat) : Int))).setCell ⟨w__2.heap.size, 1, none⟩ (.int .i64 ((rows_l : Nat) : Int))).setCell ⟨w__2.heap.size, 2, none⟩ (.string t51_2)) R
  ) ∧
  (
    (
      ∃ (t46_2 : ByteArray),
      (w.drew.alloc (.cells ⟨[(.int .i64 0), (.int .i64 0), (.string (⟨#[]⟩ : ByteArray))]⟩ 25)).cell? (t45.add (Int.toNat 0 * 1)) = some (.string t46_2) ∧
      Calls Tryd.prog 24 ⟨[(.slice rows_a rows_l rows_c), (.string (⟨#[]⟩ : ByteArray))]⟩ (w.drew.alloc (.cells ⟨[(.int .i64 0), (.int .i64 0), (.string (⟨#[]⟩ : ByteArray))]⟩ 25)) fun e w__3 =>
        ∃ (t51_3 : ByteArray),
        e = .returned (.string t51_3) ∧
        (∃ u, w__3.cell? ⟨w.drew.heap.size, 0, none⟩ = some u) ∧
        w__3.frozen? ⟨w.drew.heap.size, 0, none⟩ = false ∧
        (∃ u, (w__3.setCell ⟨w.drew.heap.size, 0, none⟩ (.int .i64 ((ByteArray.size t46_2 : Nat) : Int))).cell? ⟨w.drew.heap.size, 1, none⟩ = some u) ∧
        (w__3.setCell ⟨w.drew.heap.size, 0, none⟩ (.int .i64 ((ByteArray.size t46_2 : Nat) : Int))).frozen? ⟨w.drew.heap.size, 1, none⟩ = false ∧
        (∃ u, ((w__3.setCell ⟨w.drew.heap.size, 0, none⟩ (.int .i64 ((ByteArray.size t46_2 : Nat) : Int))).setCell ⟨w.drew.heap.size, 1, none⟩ (.int .i64 ((rows_l : Nat) : Int))).cell? ⟨w.drew.heap.size, 2, none⟩ = some u) ∧
        ((w__3.setCell ⟨w.drew.heap.size, 0, none⟩ (.int .i64 ((ByteArray.size t46_2 : Nat) : Int))).setCell ⟨w.drew.heap.size, 1, none⟩ (.int .i64 ((rows_l : Nat) : Int))).frozen? ⟨w.drew.heap.size, 2, none⟩ = false ∧
        S9_k5 t2 rows_a rows_l rows_c ⟨w.drew.heap.size, 0, none⟩ (((w__3.setCell ⟨w.drew.heap.size, 0, none⟩ (.int .i64 ((ByteArray.size t46_2 : Nat) : Int))).setCell ⟨w.drew.heap.size, 1, none⟩ (.int .i64 ((rows_l : Nat) : Int))).setCell ⟨w.drew.heap.size, 2, none⟩ (.string t51_3)) R
    ) ∧
    (
      Calls Tryd.prog 24 ⟨[(.slice rows_a rows_l rows_c), (.string (⟨#[]⟩ : ByteArray))]⟩ (w.drew.alloc (.cells ⟨[(.int .i64 0), (.int .i64 0), (.string (⟨#[]⟩ : ByteArray))]⟩ 25)) fun e w__4 =>
        ∃ (t51_4 : ByteArray),
        e = .returned (.string t51_4) ∧
        ∃ (t46_3 : ByteArray),
        w__4.cell? (t45.add (Int.toNat 0 * 1)) = some (.string t46_3) ∧
        (∃ u, w__4.cell? ⟨w.drew.heap.size, 0, none⟩ = some u) ∧
        w__4.frozen? ⟨w.drew.heap.size, 0, none⟩ = false ∧
        (∃ u, (w__4.setCell ⟨w.drew.heap.size, 0, none⟩ (.int .i64 ((ByteArray.size t46_3 : Nat) : Int))).cell? ⟨w.drew.heap.size, 1, none⟩ = some u) ∧
        (w__4.setCell ⟨w.drew.heap.size, 0, none⟩ (.int .i64 ((ByteArray.size t46_3 : Nat) : Int))).frozen? ⟨w.drew.heap.size, 1, none⟩ = false ∧
        (∃ u, ((w__4.setCell ⟨w.drew.heap.size, 0, none⟩ (.int .i64 ((ByteArray.size t46_3 : Nat) : Int))).setCell ⟨w.drew.heap.size, 1, none⟩ (.int .i64 ((rows_l : Nat) : Int))).cell? ⟨w.drew.heap.size, 2, none⟩ = some u) ∧
        ((w__4.setCell ⟨w.drew.heap.size, 0, none⟩ (.int .i64 ((ByteArray.size t46_3 : Nat) : Int))).setCell ⟨w.drew.heap.size, 1, none⟩ (.int .i64 ((rows_l : Nat) : Int))).frozen? ⟨w.drew.heap.size, 2, none⟩ = false ∧
        S9_k5 t2 rows_a rows_l rows_c ⟨w.drew.heap.size, 0, none⟩ (((w__4.setCell ⟨w.drew.heap.size, 0, none⟩ (.int .i64 ((ByteArray.size t46_3 : Nat) : Int))).setCell ⟨w.drew.heap.size, 1, none⟩ (.int .i64 ((rows_l : Nat) : Int))).setCell ⟨w.drew.heap.size, 2, none⟩ (.string t51_4)) R
    )
  )

def S9_k3 (t2 : Addr) (rows_a : Option Addr) (rows_l : Nat) (rows_c : Nat) (w : World) (R : Value → World → Prop) : Prop :=
  cond (decide ((((rows_l : Nat) : Int) : Int) = 0)) (
    (∃ u, w.cell? t2 = some u) ∧
    w.frozen? t2 = false ∧
    (∃ u, (w.setCell t2 (.int .i64 0)).cell? (t2.add 1) = some u) ∧
    (w.setCell t2 (.int .i64 0)).frozen? (t2.add 1) = false ∧
    (∃ u, ((w.setCell t2 (.int .i64 0)).setCell (t2.add 1) (.int .i64 0)).cell? (t2.add 2) = some u) ∧
    ((w.setCell t2 (.int .i64 0)).setCell (t2.add 1) (.int .i64 0)).frozen? (t2.add 2) = false ∧
    ∃ (t2_0 : Int),
    (((w.setCell t2 (.int .i64 0)).setCell (t2.add 1) (.int .i64 0)).setCell (t2.add 2) (.string (⟨#[]⟩ : ByteArray))).cell? t2 = some (.int .i64 t2_0) ∧
    ∃ (t2_1 : Int),
    (((w.setCell t2 (.int .i64 0)).setCell (t2.add 1) (.int .i64 0)).setCell (t2.add 2) (.string (⟨#[]⟩ : ByteArray))).cell? (t2.add 1) = some (.int .i64 t2_1) ∧
    ∃ (t2_2 : ByteArray),
    (((w.setCell t2 (.int .i64 0)).setCell (t2.add 1) (.int .i64 0)).setCell (t2.add 2) (.string (⟨#[]⟩ : ByteArray))).cell? (t2.add 2) = some (.string t2_2) ∧
    R (.tuple ⟨[(.agg ⟨[(.int .i64 t2_0), (.int .i64 t2_1), (.string t2_2)]⟩), (.int .i64 0), (.int .i64 30)]⟩) (((w.setCell t2 (.int .i64 0)).setCell (t2.add 1) (.int .i64 0)).setCell (t2.add 2) (.string (⟨#[]⟩ : ByteArray)))
  ) (
    S9_k4 t2 rows_a rows_l rows_c w R
  )

def S9_L1 (t2 : Addr) (rows_a : Option Addr) (rows_l : Nat) (rows_c : Nat) (t23_a : Option Addr) (t23_l : Nat) (t23_c : Nat) (t24 : Int) (t25 : Int) (w : World) (R : Value → World → Prop) (B1 : (Int) × Unit → World → Prop) : Prop :=
  cond (decide ((t25 : Int) < t24)) (
    S9_k2 t2 rows_a rows_l rows_c t23_a t23_l t23_c t24 t25 w R B1
  ) (
    S9_k3 t2 rows_a rows_l rows_c w R
  )

def S9_k0 (t2 : Addr) (rows_a : Option Addr) (rows_l : Nat) (rows_c : Nat) (w : World) (R : Value → World → Prop) : Prop :=
  ∃ (I : (Int) × Unit → World → Prop) (μ : (Int) × Unit → World → Nat),
  I (0, ()) w ∧
  ∀ (J : Env) (s : (Int) × Unit) (w' : World), I s w' →
    S9_L1 t2 rows_a rows_l rows_c rows_a rows_l rows_c ((rows_l : Nat) : Int) s.1 w' R (fun s' w'' => I s' w'' ∧ μ s' w'' < μ s w')

def S9 (s_ : ByteArray) (w : World) (R : Value → World → Prop) : Prop :=
  Calls Tryd.prog 22 ⟨[(.string s_), (.string (⟨#[10]⟩ : ByteArray))]⟩ (w.alloc (.cells ⟨[(.int .i64 0), (.int .i64 0), (.string (⟨#[]⟩ : ByteArray))]⟩ 25)) fun e w_ =>
    ∃ (t10_a : Option Addr) (t10_l : Nat) (t10_c : Nat),
    e = .returned (.slice t10_a t10_l t10_c) ∧
    ∃ (t15 : Addr),
    t10_a = some t15 ∧
    0 ≤ ((IntKind.i64.wrap (((t10_l : Nat) : Int) - 1)) : Int) ∧
    ((IntKind.i64.wrap (((t10_l : Nat) : Int) - 1)) : Int) < ((t10_l : Nat) : Int) ∧
    ∃ (t16 : ByteArray),
    w_.cell? (t15.add (Int.toNat (IntKind.i64.wrap (((t10_l : Nat) : Int) - 1)) * 1)) = some (.string t16) ∧
    cond (decide ((t16 : ByteArray) = (⟨#[]⟩ : ByteArray))) (
      0 ≤ ((IntKind.i64.wrap (((t10_l : Nat) : Int) - 1)) : Int) ∧
      ((IntKind.i64.wrap (((t10_l : Nat) : Int) - 1)) : Int) ≤ ((t10_c : Nat) : Int) ∧
      S9_k0 ⟨w.heap.size, 0, none⟩ (slAddr t10_a t10_c 0 1) ((Int.toNat (IntKind.i64.wrap (((t10_l : Nat) : Int) - 1))) - 0) (t10_c - 0) w_ R
    ) (
      S9_k0 ⟨w.heap.size, 0, none⟩ t10_a t10_l t10_c w_ R
    )

theorem S9_eq (s_ : ByteArray) (w : World) (R : Value → World → Prop) : Eng.R Tryd.prog ⟨cal, S9_nx⟩ 60 S9_ann [] (Tryd.f9.body.getD .skip) (bodyQ Tryd.prog #[.cell 2 25, .tmp 3, .tmp 4] R) (argE [(.string s_)]) w = S9 s_ w R := by kernel_rfl
/-- A call of 'carfax/floor.Parse', by its condition. -/
theorem S9_calls {s_ : ByteArray} {w : World} {R : Value → World → Prop} (hS : S9 s_ w R) : Ret Tryd.prog 9 [(.string s_)] w R :=
  R_calls (C := ⟨cal, S9_nx⟩) cal_ok follows Tryd.func9 (c := Tryd.f9.body.getD .skip) (res := #[.cell 2 25, .tmp 3, .tmp 4]) (n := 60) (by kernel_rfl) (by kernel_rfl) (by kernel_rfl) (by kernel_rfl) ((S9_eq s_ w R).mpr hS)

def S10_ann (p : List Nat) : Option LA :=
  none

def S10_nx (t : Nat) : Option (TypeId × TypeId) := none

def S10 (w_0 : Int) (w_1 : Int) (w : World) (R : Value → World → Prop) : Prop :=
  ∃ (t4 : Int),
  (w.alloc (.cells ⟨[(.int .i64 w_0), (.int .i64 w_1)]⟩ 33)).cell? ⟨w.heap.size, 0, none⟩ = some (.int .i64 t4) ∧
  cond (decide ((0 : Int) ≤ t4)) (
    ∃ (t8 : Int),
    (w.alloc (.cells ⟨[(.int .i64 w_0), (.int .i64 w_1)]⟩ 33)).cell? ⟨w.heap.size, 0, none⟩ = some (.int .i64 t8) ∧
    ∃ (t10 : Int),
    (w.alloc (.cells ⟨[(.int .i64 w_0), (.int .i64 w_1)]⟩ 33)).cell? ⟨w.heap.size, 1, none⟩ = some (.int .i64 t10) ∧
    cond (decide ((t8 : Int) < t10)) (
      ∃ (t15 : Int),
      (w.alloc (.cells ⟨[(.int .i64 w_0), (.int .i64 w_1)]⟩ 33)).cell? ⟨w.heap.size, 1, none⟩ = some (.int .i64 t15) ∧
      R (.bool (decide ((t15 : Int) ≤ 1048576))) (w.alloc (.cells ⟨[(.int .i64 w_0), (.int .i64 w_1)]⟩ 33))
    ) (
      R (.bool false) (w.alloc (.cells ⟨[(.int .i64 w_0), (.int .i64 w_1)]⟩ 33))
    )
  ) (
    R (.bool false) (w.alloc (.cells ⟨[(.int .i64 w_0), (.int .i64 w_1)]⟩ 33))
  )

theorem S10_eq (w_0 : Int) (w_1 : Int) (w : World) (R : Value → World → Prop) : Eng.R Tryd.prog ⟨cal, S10_nx⟩ 18 S10_ann [] (Tryd.f10.body.getD .skip) (bodyQ Tryd.prog #[.tmp 2] R) (argE [(.agg ⟨[(.int .i64 w_0), (.int .i64 w_1)]⟩)]) w = S10 w_0 w_1 w R := by kernel_rfl
/-- A call of 'carfax/window.right', by its condition. -/
theorem S10_calls {w_0 : Int} {w_1 : Int} {w : World} {R : Value → World → Prop} (hS : S10 w_0 w_1 w R) : Ret Tryd.prog 10 [(.agg ⟨[(.int .i64 w_0), (.int .i64 w_1)]⟩)] w R :=
  R_calls (C := ⟨cal, S10_nx⟩) cal_ok follows Tryd.func10 (c := Tryd.f10.body.getD .skip) (res := #[.tmp 2]) (n := 18) (by kernel_rfl) (by kernel_rfl) (by kernel_rfl) (by kernel_rfl) ((S10_eq w_0 w_1 w R).mpr hS)

def S11_ann (p : List Nat) : Option LA :=
  none

def S11_nx (t : Nat) : Option (TypeId × TypeId) := none

def S11 (t : Option Addr) (cell : Int) (moment : Int) (w : World) (R : Value → World → Prop) : Prop :=
  ∃ (t11 : Addr),
  t = some t11 ∧
  ∃ (t13 : Option Nat),
  w.cell? t11 = some (.map t13) ∧
  ∃ (t15_a : Option Addr) (t15_l : Nat) (t15_c : Nat) (w_ : World),
  (Instr.lookup 42 (.map t13) (.int .i64 cell) false).run Tryd.prog w = .ok (.slice t15_a t15_l t15_c) w_ ∧
  Calls Tryd.prog 26 ⟨[(.slice t15_a t15_l t15_c), (.int .i64 moment), (.func (.func 27) ⟨[]⟩ ⟨[]⟩)]⟩ w_ fun e w__1 =>
    ∃ (t17_0 : Int) (t17_1 : Bool),
    e = .returned (.tuple ⟨[(.int .i64 t17_0), (.bool t17_1)]⟩) ∧
    R (.int .i64 t17_0) w__1

theorem S11_eq (t : Option Addr) (cell : Int) (moment : Int) (w : World) (R : Value → World → Prop) : Eng.R Tryd.prog ⟨cal, S11_nx⟩ 21 S11_ann [] (Tryd.f11.body.getD .skip) (bodyQ Tryd.prog #[.tmp 6] R) (argE [(.pointer t), (.int .i64 cell), (.int .i64 moment)]) w = S11 t cell moment w R := by kernel_rfl
/-- A call of '(*carfax/window.Table).place', by its condition. -/
theorem S11_calls {t : Option Addr} {cell : Int} {moment : Int} {w : World} {R : Value → World → Prop} (hS : S11 t cell moment w R) : Ret Tryd.prog 11 [(.pointer t), (.int .i64 cell), (.int .i64 moment)] w R :=
  R_calls (C := ⟨cal, S11_nx⟩) cal_ok follows Tryd.func11 (c := Tryd.f11.body.getD .skip) (res := #[.tmp 6]) (n := 21) (by kernel_rfl) (by kernel_rfl) (by kernel_rfl) (by kernel_rfl) ((S11_eq t cell moment w R).mpr hS)

def S12_ann (p : List Nat) : Option LA :=
  none

def S12_nx (t : Nat) : Option (TypeId × TypeId) := none

def S12_k3 (s_a : Option Addr) (s_l : Nat) (s_c : Nat) (i : Int) (v_a : Option Addr) (v_l : Nat) (v_c : Nat) (w : World) (R : Value → World → Prop) : Prop :=
  0 ≤ (i : Int) ∧
  (i : Int) ≤ ((s_l : Nat) : Int) ∧
  ∃ (t82 : Int) (w_ : World),
  (Builtin.copy_ #[46, 46] 3 ⟨[(.slice (slAddr s_a s_c (Int.toNat i) 2) (s_l - (Int.toNat i)) (s_c - (Int.toNat i))), (.slice v_a v_l v_c)]⟩).run Tryd.prog w = .ok (.int .i64 t82) w_ ∧
  R (.slice s_a s_l s_c) w_

def S12_k4 (s_a : Option Addr) (s_l : Nat) (s_c : Nat) (i : Int) (v_a : Option Addr) (v_l : Nat) (v_c : Nat) (m : Int) (n_ : Int) (w : World) (R : Value → World → Prop) : Prop :=
  0 ≤ (n_ : Int) ∧
  (n_ : Int) ≤ ((s_l : Nat) : Int) ∧
  ∃ (t88 : Int) (w_ : World),
  (Builtin.copy_ #[46, 46] 3 ⟨[(.slice (slAddr s_a s_c (Int.toNat n_) 2) (s_l - (Int.toNat n_)) (s_c - (Int.toNat n_))), (.slice v_a v_l v_c)]⟩).run Tryd.prog w = .ok (.int .i64 t88) w_ ∧
  0 ≤ (i : Int) ∧
  (i : Int) ≤ ((s_l : Nat) : Int) ∧
  Calls Tryd.prog 29 ⟨[(.slice (slAddr s_a s_c (Int.toNat i) 2) (s_l - (Int.toNat i)) (s_c - (Int.toNat i))), (.int .i64 m)]⟩ w_ fun e w__1 =>
    e = .returned (.tuple ⟨[]⟩) ∧
    R (.slice s_a s_l s_c) w__1

def S12_k2 (s_a : Option Addr) (s_l : Nat) (s_c : Nat) (i : Int) (v_a : Option Addr) (v_l : Nat) (v_c : Nat) (m : Int) (n_ : Int) (w : World) (R : Value → World → Prop) : Prop :=
  0 ≤ ((IntKind.i64.wrap (n_ + m)) : Int) ∧
  ((IntKind.i64.wrap (n_ + m)) : Int) ≤ ((s_c : Nat) : Int) ∧
  0 ≤ ((IntKind.i64.wrap (i + m)) : Int) ∧
  ((IntKind.i64.wrap (i + m)) : Int) ≤ ((((Int.toNat (IntKind.i64.wrap (n_ + m))) - 0) : Nat) : Int) ∧
  ∃ (t67_v : Value) (w_ : World),
  (callFunc 28 ⟨[(.slice v_a v_l v_c), (.slice (slAddr (slAddr s_a s_c 0 2) (s_c - 0) (Int.toNat (IntKind.i64.wrap (i + m))) 2) (((Int.toNat (IntKind.i64.wrap (n_ + m))) - 0) - (Int.toNat (IntKind.i64.wrap (i + m)))) ((s_c - 0) - (Int.toNat (IntKind.i64.wrap (i + m)))))]⟩).run Tryd.prog w = .ok (.value t67_v) w_ ∧
  ∃ (t67 : Bool),
  Ending.returned t67_v = .returned (.bool t67) ∧
  cond (!t67) (
    0 ≤ ((IntKind.i64.wrap (i + m)) : Int) ∧
    ((IntKind.i64.wrap (i + m)) : Int) ≤ ((((Int.toNat (IntKind.i64.wrap (n_ + m))) - 0) : Nat) : Int) ∧
    0 ≤ (i : Int) ∧
    (i : Int) ≤ ((((Int.toNat (IntKind.i64.wrap (n_ + m))) - 0) : Nat) : Int) ∧
    ∃ (t77 : Int) (w__1 : World),
    (Builtin.copy_ #[46, 46] 3 ⟨[(.slice (slAddr (slAddr s_a s_c 0 2) (s_c - 0) (Int.toNat (IntKind.i64.wrap (i + m))) 2) (((Int.toNat (IntKind.i64.wrap (n_ + m))) - 0) - (Int.toNat (IntKind.i64.wrap (i + m)))) ((s_c - 0) - (Int.toNat (IntKind.i64.wrap (i + m))))), (.slice (slAddr (slAddr s_a s_c 0 2) (s_c - 0) (Int.toNat i) 2) (((Int.toNat (IntKind.i64.wrap (n_ + m))) - 0) - (Int.toNat i)) ((s_c - 0) - (Int.toNat i)))]⟩).run Tryd.prog w_.drew = .ok (.int .i64 t77) w__1 ∧
    S12_k3 (slAddr s_a s_c 0 2) ((Int.toNat (IntKind.i64.wrap (n_ + m))) - 0) (s_c - 0) i v_a v_l v_c w__1 R
  ) (
    S12_k4 (slAddr s_a s_c 0 2) ((Int.toNat (IntKind.i64.wrap (n_ + m))) - 0) (s_c - 0) i v_a v_l v_c m n_ w_ R
  )

def S12_k1 (s_a : Option Addr) (s_l : Nat) (s_c : Nat) (i : Int) (v_a : Option Addr) (v_l : Nat) (v_c : Nat) (m : Int) (n_ : Int) (w : World) (R : Value → World → Prop) : Prop :=
  ∃ (t30 : Int) (w_ : World),
  (Builtin.cap_ #[46] 3 ⟨[(.slice s_a s_l s_c)]⟩).run Tryd.prog w = .ok (.int .i64 t30) w_ ∧
  cond (decide ((t30 : Int) < (IntKind.i64.wrap (n_ + m)))) (
    0 ≤ (i : Int) ∧
    (i : Int) ≤ ((s_c : Nat) : Int) ∧
    ∃ (t40_a : Option Addr) (t40_l : Nat) (t40_c : Nat) (w__1 : World),
    (Builtin.append_ #[46, 3] 46 ⟨[(.slice (slAddr s_a s_c 0 2) ((Int.toNat i) - 0) (s_c - 0)), (.int .i64 (IntKind.i64.wrap ((IntKind.i64.wrap (n_ + m)) - i)))]⟩).run Tryd.prog w_ = .ok (.slice t40_a t40_l t40_c) w__1 ∧
    0 ≤ (i : Int) ∧
    (i : Int) ≤ ((t40_l : Nat) : Int) ∧
    ∃ (t45 : Int) (w__2 : World),
    (Builtin.copy_ #[46, 46] 3 ⟨[(.slice (slAddr t40_a t40_c (Int.toNat i) 2) (t40_l - (Int.toNat i)) (t40_c - (Int.toNat i))), (.slice v_a v_l v_c)]⟩).run Tryd.prog w__1 = .ok (.int .i64 t45) w__2 ∧
    0 ≤ ((IntKind.i64.wrap (i + m)) : Int) ∧
    ((IntKind.i64.wrap (i + m)) : Int) ≤ ((t40_l : Nat) : Int) ∧
    0 ≤ (i : Int) ∧
    (i : Int) ≤ ((s_l : Nat) : Int) ∧
    ∃ (t54 : Int) (w__3 : World),
    (Builtin.copy_ #[46, 46] 3 ⟨[(.slice (slAddr t40_a t40_c (Int.toNat (IntKind.i64.wrap (i + m))) 2) (t40_l - (Int.toNat (IntKind.i64.wrap (i + m)))) (t40_c - (Int.toNat (IntKind.i64.wrap (i + m))))), (.slice (slAddr s_a s_c (Int.toNat i) 2) (s_l - (Int.toNat i)) (s_c - (Int.toNat i)))]⟩).run Tryd.prog w__2.drew = .ok (.int .i64 t54) w__3 ∧
    R (.slice t40_a t40_l t40_c) w__3
  ) (
    S12_k2 s_a s_l s_c i v_a v_l v_c m n_ w_ R
  )

def S12_k0 (s_a : Option Addr) (s_l : Nat) (s_c : Nat) (i : Int) (v_a : Option Addr) (v_l : Nat) (v_c : Nat) (m : Int) (w : World) (R : Value → World → Prop) : Prop :=
  cond (decide ((i : Int) = ((s_l : Nat) : Int))) (
    ∃ (t25_a : Option Addr) (t25_l : Nat) (t25_c : Nat) (w_ : World),
    (Builtin.append_ #[46, 46] 46 ⟨[(.slice s_a s_l s_c), (.slice v_a v_l v_c)]⟩).run Tryd.prog w = .ok (.slice t25_a t25_l t25_c) w_ ∧
    R (.slice t25_a t25_l t25_c) w_
  ) (
    S12_k1 s_a s_l s_c i v_a v_l v_c m ((s_l : Nat) : Int) w R
  )

def S12 (s_a : Option Addr) (s_l : Nat) (s_c : Nat) (i : Int) (v_a : Option Addr) (v_l : Nat) (v_c : Nat) (w : World) (R : Value → World → Prop) : Prop :=
  0 ≤ (i : Int) ∧
  (i : Int) ≤ ((s_l : Nat) : Int) ∧
  cond (decide ((((v_l : Nat) : Int) : Int) = 0)) (
    R (.slice s_a s_l s_c) w
  ) (
    S12_k0 s_a s_l s_c i v_a v_l v_c ((v_l : Nat) : Int) w R
  )

theorem S12_eq (s_a : Option Addr) (s_l : Nat) (s_c : Nat) (i : Int) (v_a : Option Addr) (v_l : Nat) (v_c : Nat) (w : World) (R : Value → World → Prop) : Eng.R Tryd.prog ⟨cal, S12_nx⟩ 95 S12_ann [] (Tryd.f12.body.getD .skip) (bodyQ Tryd.prog #[.tmp 6] R) (argE [(.slice s_a s_l s_c), (.int .i64 i), (.slice v_a v_l v_c)]) w = S12 s_a s_l s_c i v_a v_l v_c w R := by kernel_rfl
/-- A call of 'slices.Insert[[]carfax/api.Window,carfax/api.Window]', by its condition. -/
theorem S12_calls {s_a : Option Addr} {s_l : Nat} {s_c : Nat} {i : Int} {v_a : Option Addr} {v_l : Nat} {v_c : Nat} {w : World} {R : Value → World → Prop} (hS : S12 s_a s_l s_c i v_a v_l v_c w R) : Ret Tryd.prog 12 [(.slice s_a s_l s_c), (.int .i64 i), (.slice v_a v_l v_c)] w R :=
  R_calls (C := ⟨cal, S12_nx⟩) cal_ok follows Tryd.func12 (c := Tryd.f12.body.getD .skip) (res := #[.tmp 6]) (n := 95) (by kernel_rfl) (by kernel_rfl) (by kernel_rfl) (by kernel_rfl) ((S12_eq s_a s_l s_c i v_a v_l v_c w R).mpr hS)

def S13_ann (p : List Nat) : Option LA := match p with
  | [0, 1, 0, 1] => some ⟨[0, 3, 7], [(8, .one (.int .i64))]⟩
  | _ => none

def S13_nx (t : Nat) : Option (TypeId × TypeId) := none

def S13_k2 (s_a : Option Addr) (s_l : Nat) (s_c : Nat) (v : Addr) (i : Int) (t7 : Int) (t8 : Int) (t16 : Bool) (w : World) (R : Value → World → Prop) (B1 : (Int) × Unit → World → Prop) : Prop :=
  cond t16 (
    R (.int .i64 i) w
  ) (
    B1 ((IntKind.i64.wrap (t8 + 1)), ()) w
  )

def S13_k1 (s_a : Option Addr) (s_l : Nat) (s_c : Nat) (v : Addr) (t7 : Int) (t8 : Int) (w : World) (R : Value → World → Prop) (B1 : (Int) × Unit → World → Prop) : Prop :=
  ∃ (t11_0 : Int),
  w.drew.cell? v = some (.int .i64 t11_0) ∧
  ∃ (t11_1 : Int),
  w.drew.cell? (v.add 1) = some (.int .i64 t11_1) ∧
  ∃ (t14 : Addr),
  s_a = some t14 ∧
  0 ≤ (t8 : Int) ∧
  (t8 : Int) < ((s_l : Nat) : Int) ∧
  ∃ (t15_0 : Int),
  w.drew.cell? (t14.add (Int.toNat t8 * 2)) = some (.int .i64 t15_0) ∧
  ∃ (t15_1 : Int),
  w.drew.cell? ((t14.add (Int.toNat t8 * 2)).add 1) = some (.int .i64 t15_1) ∧
  ∃ (t16 : Bool) (w_ : World),
  (do eqGuard .eql 33 (.tmp 11) (.tmp 15) (.agg ⟨[(.int .i64 t11_0), (.int .i64 t11_1)]⟩) (.agg ⟨[(.int .i64 t15_0), (.int .i64 t15_1)]⟩); binOp .eql 33 (.agg ⟨[(.int .i64 t11_0), (.int .i64 t11_1)]⟩) (.agg ⟨[(.int .i64 t15_0), (.int .i64 t15_1)]⟩)).run Tryd.prog w.drew = .ok (.bool t16) w_ ∧
  S13_k2 s_a s_l s_c v t8 t7 t8 t16 w_ R B1

def S13_L0 (s_a : Option Addr) (s_l : Nat) (s_c : Nat) (v : Addr) (t7 : Int) (t8 : Int) (w : World) (R : Value → World → Prop) (B1 : (Int) × Unit → World → Prop) : Prop :=
  cond (decide ((t8 : Int) < t7)) (
    S13_k1 s_a s_l s_c v t7 t8 w R B1
  ) (
    R (.int .i64 (-1)) w
  )

def S13 (s_a : Option Addr) (s_l : Nat) (s_c : Nat) (v_0 : Int) (v_1 : Int) (w : World) (R : Value → World → Prop) : Prop :=
  ∃ (I : (Int) × Unit → World → Prop) (μ : (Int) × Unit → World → Nat),
  I (0, ()) (w.alloc (.cells ⟨[(.int .i64 v_0), (.int .i64 v_1)]⟩ 33)) ∧
  ∀ (J : Env) (s : (Int) × Unit) (w' : World), I s w' →
    S13_L0 s_a s_l s_c ⟨w.heap.size, 0, none⟩ ((s_l : Nat) : Int) s.1 w' R (fun s' w'' => I s' w'' ∧ μ s' w'' < μ s w')

theorem S13_eq (s_a : Option Addr) (s_l : Nat) (s_c : Nat) (v_0 : Int) (v_1 : Int) (w : World) (R : Value → World → Prop) : Eng.R Tryd.prog ⟨cal, S13_nx⟩ 19 S13_ann [] (Tryd.f13.body.getD .skip) (bodyQ Tryd.prog #[.tmp 4] R) (argE [(.slice s_a s_l s_c), (.agg ⟨[(.int .i64 v_0), (.int .i64 v_1)]⟩)]) w = S13 s_a s_l s_c v_0 v_1 w R := by kernel_rfl
/-- A call of 'slices.Index[[]carfax/api.Window,carfax/api.Window]', by its condition. -/
theorem S13_calls {s_a : Option Addr} {s_l : Nat} {s_c : Nat} {v_0 : Int} {v_1 : Int} {w : World} {R : Value → World → Prop} (hS : S13 s_a s_l s_c v_0 v_1 w R) : Ret Tryd.prog 13 [(.slice s_a s_l s_c), (.agg ⟨[(.int .i64 v_0), (.int .i64 v_1)]⟩)] w R :=
  R_calls (C := ⟨cal, S13_nx⟩) cal_ok follows Tryd.func13 (c := Tryd.f13.body.getD .skip) (res := #[.tmp 4]) (n := 19) (by kernel_rfl) (by kernel_rfl) (by kernel_rfl) (by kernel_rfl) ((S13_eq s_a s_l s_c v_0 v_1 w R).mpr hS)

def S14_ann (p : List Nat) : Option LA :=
  none

def S14_nx (t : Nat) : Option (TypeId × TypeId) := none

def S14_k1 (s_a : Option Addr) (s_l : Nat) (s_c : Nat) (oldlen : Int) (w : World) (R : Value → World → Prop) : Prop :=
  0 ≤ (oldlen : Int) ∧
  (oldlen : Int) ≤ ((s_c : Nat) : Int) ∧
  0 ≤ (((s_l : Nat) : Int) : Int) ∧
  (((s_l : Nat) : Int) : Int) ≤ (((Int.toNat oldlen) : Nat) : Int) ∧
  ∃ (w_ : World),
  (Builtin.clear_ #[46] 0 ⟨[(.slice (slAddr s_a s_c (Int.toNat ((s_l : Nat) : Int)) 2) ((Int.toNat oldlen) - (Int.toNat ((s_l : Nat) : Int))) (s_c - (Int.toNat ((s_l : Nat) : Int))))]⟩).run Tryd.prog w = .ok (.tuple ⟨[]⟩) w_ ∧
  R (.slice s_a s_l s_c) w_

def S14_k0 (s_a : Option Addr) (s_l : Nat) (s_c : Nat) (i : Int) (j : Int) (w : World) (R : Value → World → Prop) : Prop :=
  0 ≤ (i : Int) ∧
  (i : Int) ≤ ((s_c : Nat) : Int) ∧
  0 ≤ (j : Int) ∧
  (j : Int) ≤ ((s_l : Nat) : Int) ∧
  ∃ (t26_a : Option Addr) (t26_l : Nat) (t26_c : Nat) (w_ : World),
  (Builtin.append_ #[46, 46] 46 ⟨[(.slice (slAddr s_a s_c 0 2) ((Int.toNat i) - 0) (s_c - 0)), (.slice (slAddr s_a s_c (Int.toNat j) 2) (s_l - (Int.toNat j)) (s_c - (Int.toNat j)))]⟩).run Tryd.prog w.drew = .ok (.slice t26_a t26_l t26_c) w_ ∧
  S14_k1 t26_a t26_l t26_c ((s_l : Nat) : Int) w_ R

def S14 (s_a : Option Addr) (s_l : Nat) (s_c : Nat) (i : Int) (j : Int) (w : World) (R : Value → World → Prop) : Prop :=
  0 ≤ (((s_l : Nat) : Int) : Int) ∧
  (((s_l : Nat) : Int) : Int) ≤ ((s_c : Nat) : Int) ∧
  0 ≤ (j : Int) ∧
  (j : Int) ≤ (((Int.toNat ((s_l : Nat) : Int)) : Nat) : Int) ∧
  0 ≤ (i : Int) ∧
  (i : Int) ≤ (((Int.toNat j) : Nat) : Int) ∧
  cond (decide ((i : Int) = j)) (
    R (.slice s_a s_l s_c) w
  ) (
    S14_k0 s_a s_l s_c i j w R
  )

theorem S14_eq (s_a : Option Addr) (s_l : Nat) (s_c : Nat) (i : Int) (j : Int) (w : World) (R : Value → World → Prop) : Eng.R Tryd.prog ⟨cal, S14_nx⟩ 33 S14_ann [] (Tryd.f14.body.getD .skip) (bodyQ Tryd.prog #[.tmp 6] R) (argE [(.slice s_a s_l s_c), (.int .i64 i), (.int .i64 j)]) w = S14 s_a s_l s_c i j w R := by kernel_rfl
/-- A call of 'slices.Delete[[]carfax/api.Window,carfax/api.Window]', by its condition. -/
theorem S14_calls {s_a : Option Addr} {s_l : Nat} {s_c : Nat} {i : Int} {j : Int} {w : World} {R : Value → World → Prop} (hS : S14 s_a s_l s_c i j w R) : Ret Tryd.prog 14 [(.slice s_a s_l s_c), (.int .i64 i), (.int .i64 j)] w R :=
  R_calls (C := ⟨cal, S14_nx⟩) cal_ok follows Tryd.func14 (c := Tryd.f14.body.getD .skip) (res := #[.tmp 6]) (n := 33) (by kernel_rfl) (by kernel_rfl) (by kernel_rfl) (by kernel_rfl) ((S14_eq s_a s_l s_c i j w R).mpr hS)

def S15_ann (p : List Nat) : Option LA := match p with
  | [0, 1, 0, 1, 1, 1] => some ⟨[4, 10, 58], [(59, .one (.int .i64))]⟩
  | _ => none

def S15_nx (t : Nat) : Option (TypeId × TypeId) := none

def S15_k4 (f : Addr) (s_ : Addr) (lane : Bool) (t58 : Int) (t59 : Int) (w : World) (R : Value → World → Prop) (B1 : (Int) × Unit → World → Prop) : Prop :=
  ∃ (t82 : Addr),
  (some s_) = some t82 ∧
  ∃ (t84_a : Option Addr) (t84_l : Nat) (t84_c : Nat),
  w.cell? (t82.add 1) = some (.slice t84_a t84_l t84_c) ∧
  ∃ (t87_a : Option Addr) (t87_l : Nat) (t87_c : Nat) (w_ : World),
  (Builtin.append_ #[75, 75] 75 ⟨[(.slice t84_a t84_l t84_c), (.slice (some ⟨w.heap.size, 0, none⟩) 1 1)]⟩).run Tryd.prog (w.alloc (.cells ⟨[(.bool lane)]⟩ 4)) = .ok (.slice t87_a t87_l t87_c) w_ ∧
  ∃ (t88 : Addr),
  (some s_) = some t88 ∧
  (∃ u, w_.cell? (t88.add 1) = some u) ∧
  w_.frozen? (t88.add 1) = false ∧
  B1 ((IntKind.i64.wrap (t59 + 1)), ()) (w_.setCell (t88.add 1) (.slice t87_a t87_l t87_c))

def S15_k3 (f : Addr) (s_ : Addr) (t58 : Int) (t59 : Int) (w : World) (R : Value → World → Prop) (B1 : (Int) × Unit → World → Prop) : Prop :=
  ∃ (t63_0 : Int),
  w.cell? f = some (.int .i64 t63_0) ∧
  ∃ (t63_1 : Int),
  w.cell? (f.add 1) = some (.int .i64 t63_1) ∧
  ∃ (t63_2 : ByteArray),
  w.cell? (f.add 2) = some (.string t63_2) ∧
  Calls Tryd.prog 32 ⟨[(.agg ⟨[(.int .i64 t63_0), (.int .i64 t63_1), (.string t63_2)]⟩), (.int .i64 t59)]⟩ w fun e w_ =>
    ∃ (t65_0 : Int) (t65_1 : Bool),
    e = .returned (.tuple ⟨[(.int .i64 t65_0), (.bool t65_1)]⟩) ∧
    ∃ (t70 : Addr),
    (some s_) = some t70 ∧
    ∃ (t73_0 : Int),
    w_.drew.cell? f = some (.int .i64 t73_0) ∧
    ∃ (t73_1 : Int),
    w_.drew.cell? (f.add 1) = some (.int .i64 t73_1) ∧
    ∃ (t73_2 : ByteArray),
    w_.drew.cell? (f.add 2) = some (.string t73_2) ∧
    (
      ∃ (t72_a : Option Addr) (t72_l : Nat) (t72_c : Nat),
      w_.drew.cell? t70 = some (.slice t72_a t72_l t72_c) ∧
      Calls Tryd.prog 33 ⟨[(.agg ⟨[(.int .i64 t73_0), (.int .i64 t73_1), (.string t73_2)]⟩), (.int .i64 t59)]⟩ w_.drew fun e w__1 =>
        ∃ (t75_a : Option Addr) (t75_l : Nat) (t75_c : Nat),
        e = .returned (.slice t75_a t75_l t75_c) ∧
        ∃ (t77_a : Option Addr) (t77_l : Nat) (t77_c : Nat) (w__2 : World),
        (Builtin.append_ #[74, 74] 74 ⟨[(.slice t72_a t72_l t72_c), (.slice (some ⟨w__1.heap.size, 0, none⟩) 1 1)]⟩).run Tryd.prog (w__1.alloc (.cells ⟨[(.slice t75_a t75_l t75_c)]⟩ 79)) = .ok (.slice t77_a t77_l t77_c) w__2 ∧
        ∃ (t78 : Addr),
        (some s_) = some t78 ∧
        (∃ u, w__2.cell? t78 = some u) ∧
        w__2.frozen? t78 = false ∧
        S15_k4 f s_ t65_1 t58 t59 (w__2.setCell t78 (.slice t77_a t77_l t77_c)) R B1
    ) ∧
    (
      Calls Tryd.prog 33 ⟨[(.agg ⟨[(.int .i64 t73_0), (.int .i64 t73_1), (.string t73_2)]⟩), (.int .i64 t59)]⟩ w_.drew fun e w__3 =>
        ∃ (t75_a_1 : Option Addr) (t75_l_1 : Nat) (t75_c_1 : Nat),
        e = .returned (.slice t75_a_1 t75_l_1 t75_c_1) ∧
        ∃ (t72_a_1 : Option Addr) (t72_l_1 : Nat) (t72_c_1 : Nat),
        w__3.cell? t70 = some (.slice t72_a_1 t72_l_1 t72_c_1) ∧
        ∃ (t77_a_1 : Option Addr) (t77_l_1 : Nat) (t77_c_1 : Nat) (w__4 : World),
        (Builtin.append_ #[74, 74] 74 ⟨[(.slice t72_a_1 t72_l_1 t72_c_1), (.slice (some ⟨w__3.heap.size, 0, none⟩) 1 1)]⟩).run Tryd.prog (w__3.alloc (.cells ⟨[(.slice t75_a_1 t75_l_1 t75_c_1)]⟩ 79)) = .ok (.slice t77_a_1 t77_l_1 t77_c_1) w__4 ∧
        ∃ (t78_1 : Addr),
        (some s_) = some t78_1 ∧
        (∃ u, w__4.cell? t78_1 = some u) ∧
        w__4.frozen? t78_1 = false ∧
        S15_k4 f s_ t65_1 t58 t59 (w__4.setCell t78_1 (.slice t77_a_1 t77_l_1 t77_c_1)) R B1
    )

def S15_L2 (f : Addr) (s_ : Addr) (t58 : Int) (t59 : Int) (w : World) (R : Value → World → Prop) (B1 : (Int) × Unit → World → Prop) : Prop :=
  cond (decide ((t59 : Int) < t58)) (
    S15_k3 f s_ t58 t59 w R B1
  ) (
    R (.tuple ⟨[(.pointer (some s_)), (.bool true)]⟩) w
  )

def S15_k1 (t : Option Addr) (from_ : Int) (start : Int) (f : Addr) (w : World) (R : Value → World → Prop) : Prop :=
  ∃ (t57 : ByteArray),
  ((w.alloc (.map #[] 0)).alloc (.cells ⟨[(.slice none 0 0), (.slice none 0 0), (.func (.func 30) ⟨[(.pointer t)]⟩ ⟨[]⟩), (.func (.func 31) ⟨[(.pointer t)]⟩ ⟨[]⟩), (.int .i64 from_), (.int .i64 start), (.int .i64 0), (.map (some w.heap.size))]⟩ 77)).cell? (f.add 2) = some (.string t57) ∧
  ∃ (I : (Int) × Unit → World → Prop) (μ : (Int) × Unit → World → Nat),
  I (0, ()) ((w.alloc (.map #[] 0)).alloc (.cells ⟨[(.slice none 0 0), (.slice none 0 0), (.func (.func 30) ⟨[(.pointer t)]⟩ ⟨[]⟩), (.func (.func 31) ⟨[(.pointer t)]⟩ ⟨[]⟩), (.int .i64 from_), (.int .i64 start), (.int .i64 0), (.map (some w.heap.size))]⟩ 77)) ∧
  ∀ (J : Env) (s : (Int) × Unit) (w' : World), I s w' →
    S15_L2 f ⟨(w.alloc (.map #[] 0)).heap.size, 0, none⟩ ((ByteArray.size t57 : Nat) : Int) s.1 w' R (fun s' w'' => I s' w'' ∧ μ s' w'' < μ s w')

def S15_k0 (t : Option Addr) (from_ : Int) (start : Int) (f : Addr) (t46 : Bool) (w : World) (R : Value → World → Prop) : Prop :=
  cond t46 (
    R (.tuple ⟨[(.pointer none), (.bool false)]⟩) w
  ) (
    S15_k1 t from_ start f w R
  )

def S15 (f_0 : Int) (f_1 : Int) (f_2 : ByteArray) (t : Option Addr) (from_ : Int) (start : Int) (w : World) (R : Value → World → Prop) : Prop :=
  cond (Option.isNone t) (
    S15_k0 t from_ start ⟨w.heap.size, 0, none⟩ true (w.alloc (.cells ⟨[(.int .i64 f_0), (.int .i64 f_1), (.string f_2)]⟩ 25)) R
  ) (
    cond (decide ((from_ : Int) < 0)) (
      S15_k0 t from_ start ⟨w.heap.size, 0, none⟩ true (w.alloc (.cells ⟨[(.int .i64 f_0), (.int .i64 f_1), (.string f_2)]⟩ 25)) R
    ) (
      ∃ (t23 : ByteArray),
      (w.alloc (.cells ⟨[(.int .i64 f_0), (.int .i64 f_1), (.string f_2)]⟩ 25)).cell? ⟨w.heap.size, 2, none⟩ = some (.string t23) ∧
      cond (decide ((((ByteArray.size t23 : Nat) : Int) : Int) ≤ from_)) (
        S15_k0 t from_ start ⟨w.heap.size, 0, none⟩ true (w.alloc (.cells ⟨[(.int .i64 f_0), (.int .i64 f_1), (.string f_2)]⟩ 25)) R
      ) (
        cond (decide ((start : Int) < 0)) (
          S15_k0 t from_ start ⟨w.heap.size, 0, none⟩ true (w.alloc (.cells ⟨[(.int .i64 f_0), (.int .i64 f_1), (.string f_2)]⟩ 25)) R
        ) (
          cond (decide ((1048576 : Int) ≤ start)) (
            S15_k0 t from_ start ⟨w.heap.size, 0, none⟩ true (w.alloc (.cells ⟨[(.int .i64 f_0), (.int .i64 f_1), (.string f_2)]⟩ 25)) R
          ) (
            ∃ (t36_0 : Int),
            (w.alloc (.cells ⟨[(.int .i64 f_0), (.int .i64 f_1), (.string f_2)]⟩ 25)).cell? ⟨w.heap.size, 0, none⟩ = some (.int .i64 t36_0) ∧
            ∃ (t36_1 : Int),
            (w.alloc (.cells ⟨[(.int .i64 f_0), (.int .i64 f_1), (.string f_2)]⟩ 25)).cell? ⟨w.heap.size, 1, none⟩ = some (.int .i64 t36_1) ∧
            ∃ (t36_2 : ByteArray),
            (w.alloc (.cells ⟨[(.int .i64 f_0), (.int .i64 f_1), (.string f_2)]⟩ 25)).cell? ⟨w.heap.size, 2, none⟩ = some (.string t36_2) ∧
            Calls Tryd.prog 25 ⟨[(.agg ⟨[(.int .i64 t36_0), (.int .i64 t36_1), (.string t36_2)]⟩)]⟩ (w.alloc (.cells ⟨[(.int .i64 f_0), (.int .i64 f_1), (.string f_2)]⟩ 25)) fun e w_ =>
              ∃ (t37 : Bool),
              e = .returned (.bool t37) ∧
              cond (!t37) (
                S15_k0 t from_ start ⟨w.heap.size, 0, none⟩ true w_ R
              ) (
                ∃ (t42 : ByteArray),
                w_.cell? ⟨w.heap.size, 2, none⟩ = some (.string t42) ∧
                ∃ (t44 : UInt8),
                0 ≤ (from_ : Int) ∧
                (t42)[Int.toNat from_]? = some t44 ∧
                S15_k0 t from_ start ⟨w.heap.size, 0, none⟩ (decide (((t44.toNat : Int) : Int) = 35)) w_ R
              )
          )
        )
      )
    )
  )

theorem S15_eq (f_0 : Int) (f_1 : Int) (f_2 : ByteArray) (t : Option Addr) (from_ : Int) (start : Int) (w : World) (R : Value → World → Prop) : Eng.R Tryd.prog ⟨cal, S15_nx⟩ 92 S15_ann [] (Tryd.f15.body.getD .skip) (bodyQ Tryd.prog #[.tmp 8, .tmp 9] R) (argE [(.agg ⟨[(.int .i64 f_0), (.int .i64 f_1), (.string f_2)]⟩), (.pointer t), (.int .i64 from_), (.int .i64 start)]) w = S15 f_0 f_1 f_2 t from_ start w R := by kernel_rfl
/-- A call of 'carfax/sipp.of', by its condition. -/
theorem S15_calls {f_0 : Int} {f_1 : Int} {f_2 : ByteArray} {t : Option Addr} {from_ : Int} {start : Int} {w : World} {R : Value → World → Prop} (hS : S15 f_0 f_1 f_2 t from_ start w R) : Ret Tryd.prog 15 [(.agg ⟨[(.int .i64 f_0), (.int .i64 f_1), (.string f_2)]⟩), (.pointer t), (.int .i64 from_), (.int .i64 start)] w R :=
  R_calls (C := ⟨cal, S15_nx⟩) cal_ok follows Tryd.func15 (c := Tryd.f15.body.getD .skip) (res := #[.tmp 8, .tmp 9]) (n := 92) (by kernel_rfl) (by kernel_rfl) (by kernel_rfl) (by kernel_rfl) ((S15_eq f_0 f_1 f_2 t from_ start w R).mpr hS)

def S16_ann (p : List Nat) : Option LA :=
  none

def S16_nx (t : Nat) : Option (TypeId × TypeId) := none

def S16 (ahead : Int) (w : World) (R : Value → World → Prop) : Prop :=
  cond (decide ((0 : Int) ≤ ahead)) (
    R (.bool (decide ((ahead : Int) ≤ 1024))) w
  ) (
    R (.bool false) w
  )

theorem S16_eq (ahead : Int) (w : World) (R : Value → World → Prop) : Eng.R Tryd.prog ⟨cal, S16_nx⟩ 9 S16_ann [] (Tryd.f16.body.getD .skip) (bodyQ Tryd.prog #[.tmp 2] R) (argE [(.int .i64 ahead)]) w = S16 ahead w R := by kernel_rfl
/-- A call of 'carfax/sipp.far', by its condition. -/
theorem S16_calls {ahead : Int} {w : World} {R : Value → World → Prop} (hS : S16 ahead w R) : Ret Tryd.prog 16 [(.int .i64 ahead)] w R :=
  R_calls (C := ⟨cal, S16_nx⟩) cal_ok follows Tryd.func16 (c := Tryd.f16.body.getD .skip) (res := #[.tmp 2]) (n := 9) (by kernel_rfl) (by kernel_rfl) (by kernel_rfl) (by kernel_rfl) ((S16_eq ahead w R).mpr hS)

end Go.Proofs
