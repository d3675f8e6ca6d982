import Derived.Test.YtmhjjhpgbafjpaaProg
import Derived.Test.YtmhjjhpgbafjpaaEng8
set_option linter.unusedVariables false
set_option maxRecDepth 100000
namespace Go.Proofs
open Go Go.Eng
def cal (f : FuncId) : Bool := Nat.ble 3 f && Nat.blt f 70
theorem cal_all : (List.range 70).all (fun f => !cal f || callable Try.prog f) = true := by kernel_rfl
theorem cal_ok (f : FuncId) (h : cal f = true) : callable Try.prog f = true := by
  have hb := h
  simp only [cal, Bool.and_eq_true, Nat.blt_eq] at hb
  have := List.all_eq_true.1 cal_all f (List.mem_range.2 hb.2)
  rw [h] at this
  simpa using this
theorem follows : Try.prog.follows .mixedOrders = true := by kernel_rfl

def S3_ann (p : List Nat) : Option LA := match p with
  | [0, 1, 0, 1, 1, 1, 1, 1, 1, 1] => some ⟨[2, 7, 8, 40, 41], [(11, .one .slice), (12, .one (.int .i64)), (42, .one (.int .i64))]⟩
  | [0, 1, 0, 1, 1, 1, 1, 1, 1, 1, 1, 1, 1, 1] => some ⟨[11, 103, 104], [(105, .one (.int .i64))]⟩
  | _ => none

def S3_nx (t : Nat) : Option (TypeId × TypeId) := none

def S3_k9 (all_a : Option Addr) (all_l : Nat) (all_c : Nat) (t103_a : Option Addr) (t103_l : Nat) (t103_c : Nat) (t104 : Int) (t105 : Int) (t124 : Bool) (w : World) (R : Value → World → Prop) (B1 : (Int) × Unit → World → Prop) : Prop :=
  cond t124 (
    R (.bool false) w
  ) (
    B1 ((IntKind.i64.wrap (t105 + 1)), ()) w
  )

def S3_k8 (all_a : Option Addr) (all_l : Nat) (all_c : Nat) (t103_a : Option Addr) (t103_l : Nat) (t103_c : Nat) (t104 : Int) (t105 : Int) (w : World) (R : Value → World → Prop) (B1 : (Int) × Unit → World → Prop) : Prop :=
  ∃ (t108 : Addr),
  t103_a = some t108 ∧
  0 ≤ (t105 : Int) ∧
  (t105 : Int) < ((t103_l : Nat) : Int) ∧
  ∃ (t109_a : Option Addr) (t109_l : Nat) (t109_c : Nat),
  w.cell? (t108.add (Int.toNat t105 * 1)) = some (.slice t109_a t109_l t109_c) ∧
  Calls Try.prog 13 ⟨[(.slice t109_a t109_l t109_c)]⟩ w fun e w_ =>
    ∃ (t112_0_0 : Int) (t112_0_1 : Int) (t112_0_2 : Int) (t112_0_3 : Int) (t112_0_4 : Int) (t112_0_5 : Int) (t112_1 : Int),
    e = .returned (.tuple ⟨[(.agg ⟨[(.int .u8 t112_0_0), (.int .i64 t112_0_1), (.int .i64 t112_0_2), (.int .i64 t112_0_3), (.int .i64 t112_0_4), (.int .i64 t112_0_5)]⟩), (.int .i64 t112_1)]⟩) ∧
    (∃ u, (w_.alloc (.cells ⟨[(.int .u8 0), (.int .i64 0), (.int .i64 0), (.int .i64 0), (.int .i64 0), (.int .i64 0)]⟩ 33)).cell? ⟨w_.heap.size, 0, none⟩ = some u) ∧
    (w_.alloc (.cells ⟨[(.int .u8 0), (.int .i64 0), (.int .i64 0), (.int .i64 0), (.int .i64 0), (.int .i64 0)]⟩ 33)).frozen? ⟨w_.heap.size, 0, none⟩ = false ∧
    (∃ u, ((w_.alloc (.cells ⟨[(.int .u8 0), (.int .i64 0), (.int .i64 0), (.int .i64 0), (.int .i64 0), (.int .i64 0)]⟩ 33)).setCell ⟨w_.heap.size, 0, none⟩ (.int .u8 t112_0_0)).cell? ⟨w_.heap.size, 1, none⟩ = some u) ∧
    ((w_.alloc (.cells ⟨[(.int .u8 0), (.int .i64 0), (.int .i64 0), (.int .i64 0), (.int .i64 0), (.int .i64 0)]⟩ 33)).setCell ⟨w_.heap.size, 0, none⟩ (.int .u8 t112_0_0)).frozen? ⟨w_.heap.size, 1, none⟩ = false ∧
    (∃ u, (((w_.alloc (.cells ⟨[(.int .u8 0), (.int .i64 0), (.int .i64 0), (.int .i64 0), (.int .i64 0), (.int .i64 0)]⟩ 33)).setCell ⟨w_.heap.size, 0, none⟩ (.int .u8 t112_0_0)).setCell ⟨w_.heap.size, 1, none⟩ (.int .i64 t112_0_1)).cell? ⟨w_.heap.size, 2, none⟩ = some u) ∧
    (((w_.alloc (.cells ⟨[(.int .u8 0), (.int .i64 0), (.int .i64 0), (.int .i64 0), (.int .i64 0), (.int .i64 0)]⟩ 33)).setCell ⟨w_.heap.size, 0, none⟩ (.int .u8 t112_0_0)).setCell ⟨w_.heap.size, 1, none⟩ (.int .i64 t112_0_1)).frozen? ⟨w_.heap.size, 2, none⟩ = false ∧
    (∃ u, ((((w_.alloc (.cells ⟨[(.int .u8 0), (.int .i64 0), (.int .i64 0), (.int .i64 0), (.int .i64 0), (.int .i64 0)]⟩ 33)).setCell ⟨w_.heap.size, 0, none⟩ (.int .u8 t112_0_0)).setCell ⟨w_.heap.size, 1, none⟩ (.int .i64 t112_0_1)).setCell ⟨w_.heap.size, 2, none⟩ (.int .i64 t112_0_2)).cell? ⟨w_.heap.size, 3, none⟩ = some u) ∧
    ((((w_.alloc (.cells ⟨[(.int .u8 0), (.int .i64 0), (.int .i64 0), (.int .i64 0), (.int .i64 0), (.int .i64 0)]⟩ 33)).setCell ⟨w_.heap.size, 0, none⟩ (.int .u8 t112_0_0)).setCell ⟨w_.heap.size, 1, none⟩ (.int .i64 t112_0_1)).setCell ⟨w_.heap.size, 2, none⟩ (.int .i64 t112_0_2)).frozen? ⟨w_.heap.size, 3, none⟩ = false ∧
    (∃ u, (((((w_.alloc (.cells ⟨[(.int .u8 0), (.int .i64 0), (.int .i64 0), (.int .i64 0), (.int .i64 0), (.int .i64 0)]⟩ 33)).setCell ⟨w_.heap.size, 0, none⟩ (.int .u8 t112_0_0)).setCell ⟨w_.heap.size, 1, none⟩ (.int .i64 t112_0_1)).setCell ⟨w_.heap.size, 2, none⟩ (.int .i64 t112_0_2)).setCell ⟨w_.heap.size, 3, none⟩ (.int .i64 t112_0_3)).cell? ⟨w_.heap.size, 4, none⟩ = some u) ∧
    (((((w_.alloc (.cells ⟨[(.int .u8 0), (.int .i64 0), (.int .i64 0), (.int .i64 0), (.int .i64 0), (.int .i64 0)]⟩ 33)).setCell ⟨w_.heap.size, 0, none⟩ (.int .u8 t112_0_0)).setCell ⟨w_.heap.size, 1, none⟩ (.int .i64 t112_0_1)).setCell ⟨w_.heap.size, 2, none⟩ (.int .i64 t112_0_2)).setCell ⟨w_.heap.size, 3, none⟩ (.int .i64 t112_0_3)).frozen? ⟨w_.heap.size, 4, none⟩ = false ∧
    (∃ u, ((((((w_.alloc (.cells ⟨[(.int .u8 0), (.int .i64 0), (.int .i64 0), (.int .i64 0), (.int .i64 0), (.int .i64 0)]⟩ 33)).setCell ⟨w_.heap.size, 0, none⟩ (.int .u8 t112_0_0)).setCell ⟨w_.heap.size, 1, none⟩ (.int .i64 t112_0_1)).setCell ⟨w_.heap.size, 2, none⟩ (.int .i64 t112_0_2)).setCell ⟨w_.heap.size, 3, none⟩ (.int .i64 t112_0_3)).setCell ⟨w_.heap.size, 4, none⟩ (.int .i64 t112_0_4)).cell? ⟨w_.heap.size, 5, none⟩ = some u) ∧
    ((((((w_.alloc (.cells ⟨[(.int .u8 0), (.int .i64 0), (.int .i64 0), (.int .i64 0), (.int .i64 0), (.int .i64 0)]⟩ 33)).setCell ⟨w_.heap.size, 0, none⟩ (.int .u8 t112_0_0)).setCell ⟨w_.heap.size, 1, none⟩ (.int .i64 t112_0_1)).setCell ⟨w_.heap.size, 2, none⟩ (.int .i64 t112_0_2)).setCell ⟨w_.heap.size, 3, none⟩ (.int .i64 t112_0_3)).setCell ⟨w_.heap.size, 4, none⟩ (.int .i64 t112_0_4)).frozen? ⟨w_.heap.size, 5, none⟩ = false ∧
    cond (!decide ((t112_1 : Int) = 0)) (
      S3_k9 all_a all_l all_c t103_a t103_l t103_c t104 t105 true (((((((w_.alloc (.cells ⟨[(.int .u8 0), (.int .i64 0), (.int .i64 0), (.int .i64 0), (.int .i64 0), (.int .i64 0)]⟩ 33)).setCell ⟨w_.heap.size, 0, none⟩ (.int .u8 t112_0_0)).setCell ⟨w_.heap.size, 1, none⟩ (.int .i64 t112_0_1)).setCell ⟨w_.heap.size, 2, none⟩ (.int .i64 t112_0_2)).setCell ⟨w_.heap.size, 3, none⟩ (.int .i64 t112_0_3)).setCell ⟨w_.heap.size, 4, none⟩ (.int .i64 t112_0_4)).setCell ⟨w_.heap.size, 5, none⟩ (.int .i64 t112_0_5)).drew R B1
    ) (
      ∃ (t118_0 : Int),
      (((((((w_.alloc (.cells ⟨[(.int .u8 0), (.int .i64 0), (.int .i64 0), (.int .i64 0), (.int .i64 0), (.int .i64 0)]⟩ 33)).setCell ⟨w_.heap.size, 0, none⟩ (.int .u8 t112_0_0)).setCell ⟨w_.heap.size, 1, none⟩ (.int .i64 t112_0_1)).setCell ⟨w_.heap.size, 2, none⟩ (.int .i64 t112_0_2)).setCell ⟨w_.heap.size, 3, none⟩ (.int .i64 t112_0_3)).setCell ⟨w_.heap.size, 4, none⟩ (.int .i64 t112_0_4)).setCell ⟨w_.heap.size, 5, none⟩ (.int .i64 t112_0_5)).drew.cell? ⟨w_.heap.size, 0, none⟩ = some (.int .u8 t118_0) ∧
      ∃ (t118_1 : Int),
      (((((((w_.alloc (.cells ⟨[(.int .u8 0), (.int .i64 0), (.int .i64 0), (.int .i64 0), (.int .i64 0), (.int .i64 0)]⟩ 33)).setCell ⟨w_.heap.size, 0, none⟩ (.int .u8 t112_0_0)).setCell ⟨w_.heap.size, 1, none⟩ (.int .i64 t112_0_1)).setCell ⟨w_.heap.size, 2, none⟩ (.int .i64 t112_0_2)).setCell ⟨w_.heap.size, 3, none⟩ (.int .i64 t112_0_3)).setCell ⟨w_.heap.size, 4, none⟩ (.int .i64 t112_0_4)).setCell ⟨w_.heap.size, 5, none⟩ (.int .i64 t112_0_5)).drew.cell? ⟨w_.heap.size, 1, none⟩ = some (.int .i64 t118_1) ∧
      ∃ (t118_2 : Int),
      (((((((w_.alloc (.cells ⟨[(.int .u8 0), (.int .i64 0), (.int .i64 0), (.int .i64 0), (.int .i64 0), (.int .i64 0)]⟩ 33)).setCell ⟨w_.heap.size, 0, none⟩ (.int .u8 t112_0_0)).setCell ⟨w_.heap.size, 1, none⟩ (.int .i64 t112_0_1)).setCell ⟨w_.heap.size, 2, none⟩ (.int .i64 t112_0_2)).setCell ⟨w_.heap.size, 3, none⟩ (.int .i64 t112_0_3)).setCell ⟨w_.heap.size, 4, none⟩ (.int .i64 t112_0_4)).setCell ⟨w_.heap.size, 5, none⟩ (.int .i64 t112_0_5)).drew.cell? ⟨w_.heap.size, 2, none⟩ = some (.int .i64 t118_2) ∧
      ∃ (t118_3 : Int),
      (((((((w_.alloc (.cells ⟨[(.int .u8 0), (.int .i64 0), (.int .i64 0), (.int .i64 0), (.int .i64 0), (.int .i64 0)]⟩ 33)).setCell ⟨w_.heap.size, 0, none⟩ (.int .u8 t112_0_0)).setCell ⟨w_.heap.size, 1, none⟩ (.int .i64 t112_0_1)).setCell ⟨w_.heap.size, 2, none⟩ (.int .i64 t112_0_2)).setCell ⟨w_.heap.size, 3, none⟩ (.int .i64 t112_0_3)).setCell ⟨w_.heap.size, 4, none⟩ (.int .i64 t112_0_4)).setCell ⟨w_.heap.size, 5, none⟩ (.int .i64 t112_0_5)).drew.cell? ⟨w_.heap.size, 3, none⟩ = some (.int .i64 t118_3) ∧
      ∃ (t118_4 : Int),
      (((((((w_.alloc (.cells ⟨[(.int .u8 0), (.int .i64 0), (.int .i64 0), (.int .i64 0), (.int .i64 0), (.int .i64 0)]⟩ 33)).setCell ⟨w_.heap.size, 0, none⟩ (.int .u8 t112_0_0)).setCell ⟨w_.heap.size, 1, none⟩ (.int .i64 t112_0_1)).setCell ⟨w_.heap.size, 2, none⟩ (.int .i64 t112_0_2)).setCell ⟨w_.heap.size, 3, none⟩ (.int .i64 t112_0_3)).setCell ⟨w_.heap.size, 4, none⟩ (.int .i64 t112_0_4)).setCell ⟨w_.heap.size, 5, none⟩ (.int .i64 t112_0_5)).drew.cell? ⟨w_.heap.size, 4, none⟩ = some (.int .i64 t118_4) ∧
      ∃ (t118_5 : Int),
      (((((((w_.alloc (.cells ⟨[(.int .u8 0), (.int .i64 0), (.int .i64 0), (.int .i64 0), (.int .i64 0), (.int .i64 0)]⟩ 33)).setCell ⟨w_.heap.size, 0, none⟩ (.int .u8 t112_0_0)).setCell ⟨w_.heap.size, 1, none⟩ (.int .i64 t112_0_1)).setCell ⟨w_.heap.size, 2, none⟩ (.int .i64 t112_0_2)).setCell ⟨w_.heap.size, 3, none⟩ (.int .i64 t112_0_3)).setCell ⟨w_.heap.size, 4, none⟩ (.int .i64 t112_0_4)).setCell ⟨w_.heap.size, 5, none⟩ (.int .i64 t112_0_5)).drew.cell? ⟨w_.heap.size, 5, none⟩ = some (.int .i64 t118_5) ∧
      ∃ (t121 : Addr),
      all_a = some t121 ∧
      0 ≤ (t105 : Int) ∧
      (t105 : Int) < ((all_l : Nat) : Int) ∧
      ∃ (t122_0 : Int),
      (((((((w_.alloc (.cells ⟨[(.int .u8 0), (.int .i64 0), (.int .i64 0), (.int .i64 0), (.int .i64 0), (.int .i64 0)]⟩ 33)).setCell ⟨w_.heap.size, 0, none⟩ (.int .u8 t112_0_0)).setCell ⟨w_.heap.size, 1, none⟩ (.int .i64 t112_0_1)).setCell ⟨w_.heap.size, 2, none⟩ (.int .i64 t112_0_2)).setCell ⟨w_.heap.size, 3, none⟩ (.int .i64 t112_0_3)).setCell ⟨w_.heap.size, 4, none⟩ (.int .i64 t112_0_4)).setCell ⟨w_.heap.size, 5, none⟩ (.int .i64 t112_0_5)).drew.cell? (t121.add (Int.toNat t105 * 6)) = some (.int .u8 t122_0) ∧
      ∃ (t122_1 : Int),
      (((((((w_.alloc (.cells ⟨[(.int .u8 0), (.int .i64 0), (.int .i64 0), (.int .i64 0), (.int .i64 0), (.int .i64 0)]⟩ 33)).setCell ⟨w_.heap.size, 0, none⟩ (.int .u8 t112_0_0)).setCell ⟨w_.heap.size, 1, none⟩ (.int .i64 t112_0_1)).setCell ⟨w_.heap.size, 2, none⟩ (.int .i64 t112_0_2)).setCell ⟨w_.heap.size, 3, none⟩ (.int .i64 t112_0_3)).setCell ⟨w_.heap.size, 4, none⟩ (.int .i64 t112_0_4)).setCell ⟨w_.heap.size, 5, none⟩ (.int .i64 t112_0_5)).drew.cell? ((t121.add (Int.toNat t105 * 6)).add 1) = some (.int .i64 t122_1) ∧
      ∃ (t122_2 : Int),
      (((((((w_.alloc (.cells ⟨[(.int .u8 0), (.int .i64 0), (.int .i64 0), (.int .i64 0), (.int .i64 0), (.int .i64 0)]⟩ 33)).setCell ⟨w_.heap.size, 0, none⟩ (.int .u8 t112_0_0)).setCell ⟨w_.heap.size, 1, none⟩ (.int .i64 t112_0_1)).setCell ⟨w_.heap.size, 2, none⟩ (.int .i64 t112_0_2)).setCell ⟨w_.heap.size, 3, none⟩ (.int .i64 t112_0_3)).setCell ⟨w_.heap.size, 4, none⟩ (.int .i64 t112_0_4)).setCell ⟨w_.heap.size, 5, none⟩ (.int .i64 t112_0_5)).drew.cell? ((t121.add (Int.toNat t105 * 6)).add 2) = some (.int .i64 t122_2) ∧
      ∃ (t122_3 : Int),
      (((((((w_.alloc (.cells ⟨[(.int .u8 0), (.int .i64 0), (.int .i64 0), (.int .i64 0), (.int .i64 0), (.int .i64 0)]⟩ 33)).setCell ⟨w_.heap.size, 0, none⟩ (.int .u8 t112_0_0)).setCell ⟨w_.heap.size, 1, none⟩ (.int .i64 t112_0_1)).setCell ⟨w_.heap.size, 2, none⟩ (.int .i64 t112_0_2)).setCell ⟨w_.heap.size, 3, none⟩ (.int .i64 t112_0_3)).setCell ⟨w_.heap.size, 4, none⟩ (.int .i64 t112_0_4)).setCell ⟨w_.heap.size, 5, none⟩ (.int .i64 t112_0_5)).drew.cell? ((t121.add (Int.toNat t105 * 6)).add 3) = some (.int .i64 t122_3) ∧
      ∃ (t122_4 : Int),
      (((((((w_.alloc (.cells ⟨[(.int .u8 0), (.int .i64 0), (.int .i64 0), (.int .i64 0), (.int .i64 0), (.int .i64 0)]⟩ 33)).setCell ⟨w_.heap.size, 0, none⟩ (.int .u8 t112_0_0)).setCell ⟨w_.heap.size, 1, none⟩ (.int .i64 t112_0_1)).setCell ⟨w_.heap.size, 2, none⟩ (.int .i64 t112_0_2)).setCell ⟨w_.heap.size, 3, none⟩ (.int .i64 t112_0_3)).setCell ⟨w_.heap.size, 4, none⟩ (.int .i64 t112_0_4)).setCell ⟨w_.heap.size, 5, none⟩ (.int .i64 t112_0_5)).drew.cell? ((t121.add (Int.toNat t105 * 6)).add 4) = some (.int .i64 t122_4) ∧
      ∃ (t122_5 : Int),
      (((((((w_.alloc (.cells ⟨[(.int .u8 0), (.int .i64 0), (.int .i64 0), (.int .i64 0), (.int .i64 0), (.int .i64 0)]⟩ 33)).setCell ⟨w_.heap.size, 0, none⟩ (.int .u8 t112_0_0)).setCell ⟨w_.heap.size, 1, none⟩ (.int .i64 t112_0_1)).setCell ⟨w_.heap.size, 2, none⟩ (.int .i64 t112_0_2)).setCell ⟨w_.heap.size, 3, none⟩ (.int .i64 t112_0_3)).setCell ⟨w_.heap.size, 4, none⟩ (.int .i64 t112_0_4)).setCell ⟨w_.heap.size, 5, none⟩ (.int .i64 t112_0_5)).drew.cell? ((t121.add (Int.toNat t105 * 6)).add 5) = some (.int .i64 t122_5) ∧
      ∃ (t123 : Bool) (w__1 : World),
      (do eqGuard .neq 33 (.tmp 118) (.tmp 122) (.agg ⟨[(.int .u8 t118_0), (.int .i64 t118_1), (.int .i64 t118_2), (.int .i64 t118_3), (.int .i64 t118_4), (.int .i64 t118_5)]⟩) (.agg ⟨[(.int .u8 t122_0), (.int .i64 t122_1), (.int .i64 t122_2), (.int .i64 t122_3), (.int .i64 t122_4), (.int .i64 t122_5)]⟩); binOp .neq 33 (.agg ⟨[(.int .u8 t118_0), (.int .i64 t118_1), (.int .i64 t118_2), (.int .i64 t118_3), (.int .i64 t118_4), (.int .i64 t118_5)]⟩) (.agg ⟨[(.int .u8 t122_0), (.int .i64 t122_1), (.int .i64 t122_2), (.int .i64 t122_3), (.int .i64 t122_4), (.int .i64 t122_5)]⟩)).run Try.prog (((((((w_.alloc (.cells ⟨[(.int .u8 0), (.int .i64 0), (.int .i64 0), (.int .i64 0), (.int .i64 0), (.int .i64 0)]⟩ 33)).setCell ⟨w_.heap.size, 0, none⟩ (.int .u8 t112_0_0)).setCell ⟨w_.heap.size, 1, none⟩ (.int .i64 t112_0_1)).setCell ⟨w_.heap.size, 2, none⟩ (.int .i64 t112_0_2)).setCell ⟨w_.heap.size, 3, none⟩ (.int .i64 t112_0_3)).setCell ⟨w_.heap.size, 4, none⟩ (.int .i64 t112_0_4)).setCell ⟨w_.heap.size, 5, none⟩ (.int .i64 t112_0_5)).drew = .ok (.bool t123) w__1 ∧
      S3_k9 all_a all_l all_c t103_a t103_l t103_c t104 t105 t123 w__1 R B1
    )

def S3_L7 (all_a : Option Addr) (all_l : Nat) (all_c : Nat) (t103_a : Option Addr) (t103_l : Nat) (t103_c : Nat) (t104 : Int) (t105 : Int) (w : World) (R : Value → World → Prop) (B1 : (Int) × Unit → World → Prop) : Prop :=
  cond (decide ((t105 : Int) < t104)) (
    S3_k8 all_a all_l all_c t103_a t103_l t103_c t104 t105 w R B1
  ) (
    R (.bool true) w
  )

def S3_k6 (all_a : Option Addr) (all_l : Nat) (all_c : Nat) (found_a : Option Addr) (found_l : Nat) (found_c : Nat) (w : World) (R : Value → World → Prop) : Prop :=
  ∃ (I : (Int) × Unit → World → Prop) (μ : (Int) × Unit → World → Nat),
  I (0, ()) w ∧
  ∀ (J : Env) (s : (Int) × Unit) (w' : World), I s w' →
    S3_L7 all_a all_l all_c found_a found_l found_c ((found_l : Nat) : Int) s.1 w' R (fun s' w'' => I s' w'' ∧ μ s' w'' < μ s w')

def S3_k5 (all_a : Option Addr) (all_l : Nat) (all_c : Nat) (found_a : Option Addr) (found_l : Nat) (found_c : Nat) (t102 : Bool) (w : World) (R : Value → World → Prop) : Prop :=
  cond t102 (
    R (.bool false) w
  ) (
    S3_k6 all_a all_l all_c found_a found_l found_c w R
  )

def S3_k4 (keep : Int) (d : Option Addr) (all_a : Option Addr) (all_l : Nat) (all_c : Nat) (safe : Int) (w : World) (R : Value → World → Prop) : Prop :=
  Calls Try.prog 12 ⟨[(.pointer d), (.int .i64 keep)]⟩ w fun e w_ =>
    e = .returned (.tuple ⟨[]⟩) ∧
    Calls Try.prog 6 ⟨[(.pointer d)]⟩ w_ fun e w__1 =>
      ∃ (t84_0 : Option Addr) (t84_1_a : Option Addr) (t84_1_l : Nat) (t84_1_c : Nat) (t84_2 : Int),
      e = .returned (.tuple ⟨[(.pointer t84_0), (.slice t84_1_a t84_1_l t84_1_c), (.int .i64 t84_2)]⟩) ∧
      cond (!decide ((t84_2 : Int) = 0)) (
        S3_k5 all_a all_l all_c t84_1_a t84_1_l t84_1_c true w__1 R
      ) (
        cond (decide ((((t84_1_l : Nat) : Int) : Int) < safe)) (
          S3_k5 all_a all_l all_c t84_1_a t84_1_l t84_1_c true w__1 R
        ) (
          S3_k5 all_a all_l all_c t84_1_a t84_1_l t84_1_c (decide ((((all_l : Nat) : Int) : Int) < ((t84_1_l : Nat) : Int))) w__1 R
        )
      )

def S3_k13 (keep : Int) (d : Option Addr) (j : Option Addr) (all_a : Option Addr) (all_l : Nat) (all_c : Nat) (safe : Int) (t40_a : Option Addr) (t40_l : Nat) (t40_c : Nat) (t41 : Int) (t42 : Int) (t75 : Bool) (w : World) (R : Value → World → Prop) (B1 : (Option Addr × Nat × Nat) × (Int) × (Int) × Unit → World → Prop) : Prop :=
  cond t75 (
    B1 ((all_a, all_l, all_c), ((all_l : Nat) : Int), (IntKind.i64.wrap (t42 + 1)), ()) w
  ) (
    B1 ((all_a, all_l, all_c), safe, (IntKind.i64.wrap (t42 + 1)), ()) w
  )

def S3_k12 (keep : Int) (d : Option Addr) (j : Option Addr) (all_a : Option Addr) (all_l : Nat) (all_c : Nat) (safe : Int) (n_ : Addr) (t40_a : Option Addr) (t40_l : Nat) (t40_c : Nat) (t41 : Int) (t42 : Int) (w : World) (R : Value → World → Prop) (B1 : (Option Addr × Nat × Nat) × (Int) × (Int) × Unit → World → Prop) : Prop :=
  ∃ (t70 : Bool),
  w.cell? (n_.add 6) = some (.bool t70) ∧
  cond t70 (
    Calls Try.prog 11 ⟨[(.pointer j)]⟩ w fun e w_ =>
      ∃ (t73 : Int),
      e = .returned (.int .i64 t73) ∧
      S3_k13 keep d j all_a all_l all_c safe t40_a t40_l t40_c t41 t42 (decide ((t73 : Int) = 0)) w_ R B1
  ) (
    S3_k13 keep d j all_a all_l all_c safe t40_a t40_l t40_c t41 t42 false w R B1
  )

def S3_k11 (keep : Int) (d : Option Addr) (j : Option Addr) (all_a : Option Addr) (all_l : Nat) (all_c : Nat) (safe : Int) (n_ : Addr) (b_a : Option Addr) (b_l : Nat) (b_c : Nat) (t40_a : Option Addr) (t40_l : Nat) (t40_c : Nat) (t41 : Int) (t42 : Int) (w : World) (R : Value → World → Prop) (B1 : (Option Addr × Nat × Nat) × (Int) × (Int) × Unit → World → Prop) : Prop :=
  Calls Try.prog 10 ⟨[(.pointer j), (.slice b_a b_l b_c)]⟩ w fun e w_ =>
    ∃ (t62 : Int),
    e = .returned (.int .i64 t62) ∧
    cond (decide ((t62 : Int) = 0)) (
      ∃ (t66_0 : Int),
      w_.cell? n_ = some (.int .u8 t66_0) ∧
      ∃ (t66_1 : Int),
      w_.cell? (n_.add 1) = some (.int .i64 t66_1) ∧
      ∃ (t66_2 : Int),
      w_.cell? (n_.add 2) = some (.int .i64 t66_2) ∧
      ∃ (t66_3 : Int),
      w_.cell? (n_.add 3) = some (.int .i64 t66_3) ∧
      ∃ (t66_4 : Int),
      w_.cell? (n_.add 4) = some (.int .i64 t66_4) ∧
      ∃ (t66_5 : Int),
      w_.cell? (n_.add 5) = some (.int .i64 t66_5) ∧
      ∃ (t68_a : Option Addr) (t68_l : Nat) (t68_c : Nat) (w__1 : World),
      (Builtin.append_ #[31, 31] 31 ⟨[(.slice all_a all_l all_c), (.slice (some ⟨w_.heap.size, 0, none⟩) 1 1)]⟩).run Try.prog (w_.alloc (.cells ⟨[(.int .u8 t66_0), (.int .i64 t66_1), (.int .i64 t66_2), (.int .i64 t66_3), (.int .i64 t66_4), (.int .i64 t66_5)]⟩ 33)) = .ok (.slice t68_a t68_l t68_c) w__1 ∧
      S3_k12 keep d j t68_a t68_l t68_c safe n_ t40_a t40_l t40_c t41 t42 w__1 R B1
    ) (
      S3_k12 keep d j all_a all_l all_c safe n_ t40_a t40_l t40_c t41 t42 w_ R B1
    )

def S3_k10 (keep : Int) (d : Option Addr) (j : Option Addr) (all_a : Option Addr) (all_l : Nat) (all_c : Nat) (safe : Int) (n_ : Addr) (t40_a : Option Addr) (t40_l : Nat) (t40_c : Nat) (t41 : Int) (t42 : Int) (w : World) (R : Value → World → Prop) (B1 : (Option Addr × Nat × Nat) × (Int) × (Int) × Unit → World → Prop) : Prop :=
  ∃ (t51_0 : Int),
  w.cell? n_ = some (.int .u8 t51_0) ∧
  ∃ (t51_1 : Int),
  w.cell? (n_.add 1) = some (.int .i64 t51_1) ∧
  ∃ (t51_2 : Int),
  w.cell? (n_.add 2) = some (.int .i64 t51_2) ∧
  ∃ (t51_3 : Int),
  w.cell? (n_.add 3) = some (.int .i64 t51_3) ∧
  ∃ (t51_4 : Int),
  w.cell? (n_.add 4) = some (.int .i64 t51_4) ∧
  ∃ (t51_5 : Int),
  w.cell? (n_.add 5) = some (.int .i64 t51_5) ∧
  Calls Try.prog 8 ⟨[(.agg ⟨[(.int .u8 t51_0), (.int .i64 t51_1), (.int .i64 t51_2), (.int .i64 t51_3), (.int .i64 t51_4), (.int .i64 t51_5)]⟩)]⟩ w fun e w_ =>
    ∃ (t52_0_a : Option Addr) (t52_0_l : Nat) (t52_0_c : Nat) (t52_1 : Int),
    e = .returned (.tuple ⟨[(.slice t52_0_a t52_0_l t52_0_c), (.int .i64 t52_1)]⟩) ∧
    cond (!decide ((t52_1 : Int) = 0)) (
      ∃ (t58_0 : Int),
      w_.cell? n_ = some (.int .u8 t58_0) ∧
      ∃ (t58_1 : Int),
      w_.cell? (n_.add 1) = some (.int .i64 t58_1) ∧
      ∃ (t58_2 : Int),
      w_.cell? (n_.add 2) = some (.int .i64 t58_2) ∧
      ∃ (t58_3 : Int),
      w_.cell? (n_.add 3) = some (.int .i64 t58_3) ∧
      ∃ (t58_4 : Int),
      w_.cell? (n_.add 4) = some (.int .i64 t58_4) ∧
      ∃ (t58_5 : Int),
      w_.cell? (n_.add 5) = some (.int .i64 t58_5) ∧
      Calls Try.prog 9 ⟨[(.agg ⟨[(.int .u8 t58_0), (.int .i64 t58_1), (.int .i64 t58_2), (.int .i64 t58_3), (.int .i64 t58_4), (.int .i64 t58_5)]⟩)]⟩ w_ fun e w__1 =>
        ∃ (t59 : Bool),
        e = .returned (.bool t59) ∧
        cond t59 (
          R (.bool false) w__1
        ) (
          B1 ((all_a, all_l, all_c), safe, (IntKind.i64.wrap (t42 + 1)), ()) w__1
        )
    ) (
      S3_k11 keep d j all_a all_l all_c safe n_ t52_0_a t52_0_l t52_0_c t40_a t40_l t40_c t41 t42 w_ R B1
    )

def S3_k3 (keep : Int) (d : Option Addr) (j : Option Addr) (all_a : Option Addr) (all_l : Nat) (all_c : Nat) (safe : Int) (t40_a : Option Addr) (t40_l : Nat) (t40_c : Nat) (t41 : Int) (t42 : Int) (w : World) (R : Value → World → Prop) (B1 : (Option Addr × Nat × Nat) × (Int) × (Int) × Unit → World → Prop) : Prop :=
  ∃ (t45 : Addr),
  t40_a = some t45 ∧
  0 ≤ (t42 : Int) ∧
  (t42 : Int) < ((t40_l : Nat) : Int) ∧
  ∃ (t46_0 : Int),
  w.cell? (t45.add (Int.toNat t42 * 7)) = some (.int .u8 t46_0) ∧
  ∃ (t46_1 : Int),
  w.cell? ((t45.add (Int.toNat t42 * 7)).add 1) = some (.int .i64 t46_1) ∧
  ∃ (t46_2 : Int),
  w.cell? ((t45.add (Int.toNat t42 * 7)).add 2) = some (.int .i64 t46_2) ∧
  ∃ (t46_3 : Int),
  w.cell? ((t45.add (Int.toNat t42 * 7)).add 3) = some (.int .i64 t46_3) ∧
  ∃ (t46_4 : Int),
  w.cell? ((t45.add (Int.toNat t42 * 7)).add 4) = some (.int .i64 t46_4) ∧
  ∃ (t46_5 : Int),
  w.cell? ((t45.add (Int.toNat t42 * 7)).add 5) = some (.int .i64 t46_5) ∧
  ∃ (t46_6 : Bool),
  w.cell? ((t45.add (Int.toNat t42 * 7)).add 6) = some (.bool t46_6) ∧
  (∃ u, (w.alloc (.cells ⟨[(.int .u8 0), (.int .i64 0), (.int .i64 0), (.int .i64 0), (.int .i64 0), (.int .i64 0), (.bool false)]⟩ 35)).cell? ⟨w.heap.size, 0, none⟩ = some u) ∧
  (w.alloc (.cells ⟨[(.int .u8 0), (.int .i64 0), (.int .i64 0), (.int .i64 0), (.int .i64 0), (.int .i64 0), (.bool false)]⟩ 35)).frozen? ⟨w.heap.size, 0, none⟩ = false ∧
  (∃ u, ((w.alloc (.cells ⟨[(.int .u8 0), (.int .i64 0), (.int .i64 0), (.int .i64 0), (.int .i64 0), (.int .i64 0), (.bool false)]⟩ 35)).setCell ⟨w.heap.size, 0, none⟩ (.int .u8 t46_0)).cell? ⟨w.heap.size, 1, none⟩ = some u) ∧
  ((w.alloc (.cells ⟨[(.int .u8 0), (.int .i64 0), (.int .i64 0), (.int .i64 0), (.int .i64 0), (.int .i64 0), (.bool false)]⟩ 35)).setCell ⟨w.heap.size, 0, none⟩ (.int .u8 t46_0)).frozen? ⟨w.heap.size, 1, none⟩ = false ∧
  (∃ u, (((w.alloc (.cells ⟨[(.int .u8 0), (.int .i64 0), (.int .i64 0), (.int .i64 0), (.int .i64 0), (.int .i64 0), (.bool false)]⟩ 35)).setCell ⟨w.heap.size, 0, none⟩ (.int .u8 t46_0)).setCell ⟨w.heap.size, 1, none⟩ (.int .i64 t46_1)).cell? ⟨w.heap.size, 2, none⟩ = some u) ∧
  (((w.alloc (.cells ⟨[(.int .u8 0), (.int .i64 0), (.int .i64 0), (.int .i64 0), (.int .i64 0), (.int .i64 0), (.bool false)]⟩ 35)).setCell ⟨w.heap.size, 0, none⟩ (.int .u8 t46_0)).setCell ⟨w.heap.size, 1, none⟩ (.int .i64 t46_1)).frozen? ⟨w.heap.size, 2, none⟩ = false ∧
  (∃ u, ((((w.alloc (.cells ⟨[(.int .u8 0), (.int .i64 0), (.int .i64 0), (.int .i64 0), (.int .i64 0), (.int .i64 0), (.bool false)]⟩ 35)).setCell ⟨w.heap.size, 0, none⟩ (.int .u8 t46_0)).setCell ⟨w.heap.size, 1, none⟩ (.int .i64 t46_1)).setCell ⟨w.heap.size, 2, none⟩ (.int .i64 t46_2)).cell? ⟨w.heap.size, 3, none⟩ = some u) ∧
  ((((w.alloc (.cells ⟨[(.int .u8 0), (.int .i64 0), (.int .i64 0), (.int .i64 0), (.int .i64 0), (.int .i64 0), (.bool false)]⟩ 35)).setCell ⟨w.heap.size, 0, none⟩ (.int .u8 t46_0)).setCell ⟨w.heap.size, 1, none⟩ (.int .i64 t46_1)).setCell ⟨w.heap.size, 2, none⟩ (.int .i64 t46_2)).frozen? ⟨w.heap.size, 3, none⟩ = false ∧
  (∃ u, (((((w.alloc (.cells ⟨[(.int .u8 0), (.int .i64 0), (.int .i64 0), (.int .i64 0), (.int .i64 0), (.int .i64 0), (.bool false)]⟩ 35)).setCell ⟨w.heap.size, 0, none⟩ (.int .u8 t46_0)).setCell ⟨w.heap.size, 1, none⟩ (.int .i64 t46_1)).setCell ⟨w.heap.size, 2, none⟩ (.int .i64 t46_2)).setCell ⟨w.heap.size, 3, none⟩ (.int .i64 t46_3)).cell? ⟨w.heap.size, 4, none⟩ = some u) ∧
  (((((w.alloc (.cells ⟨[(.int .u8 0), (.int .i64 0), (.int .i64 0), (.int .i64 0), (.int .i64 0), (.int .i64 0), (.bool false)]⟩ 35)).setCell ⟨w.heap.size, 0, none⟩ (.int .u8 t46_0)).setCell ⟨w.heap.size, 1, none⟩ (.int .i64 t46_1)).setCell ⟨w.heap.size, 2, none⟩ (.int .i64 t46_2)).setCell ⟨w.heap.size, 3, none⟩ (.int .i64 t46_3)).frozen? ⟨w.heap.size, 4, none⟩ = false ∧
  (∃ u, ((((((w.alloc (.cells ⟨[(.int .u8 0), (.int .i64 0), (.int .i64 0), (.int .i64 0), (.int .i64 0), (.int .i64 0), (.bool false)]⟩ 35)).setCell ⟨w.heap.size, 0, none⟩ (.int .u8 t46_0)).setCell ⟨w.heap.size, 1, none⟩ (.int .i64 t46_1)).setCell ⟨w.heap.size, 2, none⟩ (.int .i64 t46_2)).setCell ⟨w.heap.size, 3, none⟩ (.int .i64 t46_3)).setCell ⟨w.heap.size, 4, none⟩ (.int .i64 t46_4)).cell? ⟨w.heap.size, 5, none⟩ = some u) ∧
  ((((((w.alloc (.cells ⟨[(.int .u8 0), (.int .i64 0), (.int .i64 0), (.int .i64 0), (.int .i64 0), (.int .i64 0), (.bool false)]⟩ 35)).setCell ⟨w.heap.size, 0, none⟩ (.int .u8 t46_0)).setCell ⟨w.heap.size, 1, none⟩ (.int .i64 t46_1)).setCell ⟨w.heap.size, 2, none⟩ (.int .i64 t46_2)).setCell ⟨w.heap.size, 3, none⟩ (.int .i64 t46_3)).setCell ⟨w.heap.size, 4, none⟩ (.int .i64 t46_4)).frozen? ⟨w.heap.size, 5, none⟩ = false ∧
  (∃ u, (((((((w.alloc (.cells ⟨[(.int .u8 0), (.int .i64 0), (.int .i64 0), (.int .i64 0), (.int .i64 0), (.int .i64 0), (.bool false)]⟩ 35)).setCell ⟨w.heap.size, 0, none⟩ (.int .u8 t46_0)).setCell ⟨w.heap.size, 1, none⟩ (.int .i64 t46_1)).setCell ⟨w.heap.size, 2, none⟩ (.int .i64 t46_2)).setCell ⟨w.heap.size, 3, none⟩ (.int .i64 t46_3)).setCell ⟨w.heap.size, 4, none⟩ (.int .i64 t46_4)).setCell ⟨w.heap.size, 5, none⟩ (.int .i64 t46_5)).cell? ⟨w.heap.size, 6, none⟩ = some u) ∧
  (((((((w.alloc (.cells ⟨[(.int .u8 0), (.int .i64 0), (.int .i64 0), (.int .i64 0), (.int .i64 0), (.int .i64 0), (.bool false)]⟩ 35)).setCell ⟨w.heap.size, 0, none⟩ (.int .u8 t46_0)).setCell ⟨w.heap.size, 1, none⟩ (.int .i64 t46_1)).setCell ⟨w.heap.size, 2, none⟩ (.int .i64 t46_2)).setCell ⟨w.heap.size, 3, none⟩ (.int .i64 t46_3)).setCell ⟨w.heap.size, 4, none⟩ (.int .i64 t46_4)).setCell ⟨w.heap.size, 5, none⟩ (.int .i64 t46_5)).frozen? ⟨w.heap.size, 6, none⟩ = false ∧
  cond (decide ((60 : Int) ≤ t42)) (
    S3_k4 keep d all_a all_l all_c safe ((((((((w.alloc (.cells ⟨[(.int .u8 0), (.int .i64 0), (.int .i64 0), (.int .i64 0), (.int .i64 0), (.int .i64 0), (.bool false)]⟩ 35)).setCell ⟨w.heap.size, 0, none⟩ (.int .u8 t46_0)).setCell ⟨w.heap.size, 1, none⟩ (.int .i64 t46_1)).setCell ⟨w.heap.size, 2, none⟩ (.int .i64 t46_2)).setCell ⟨w.heap.size, 3, none⟩ (.int .i64 t46_3)).setCell ⟨w.heap.size, 4, none⟩ (.int .i64 t46_4)).setCell ⟨w.heap.size, 5, none⟩ (.int .i64 t46_5)).setCell ⟨w.heap.size, 6, none⟩ (.bool t46_6)) R
  ) (
    S3_k10 keep d j all_a all_l all_c safe ⟨w.heap.size, 0, none⟩ t40_a t40_l t40_c t41 t42 ((((((((w.alloc (.cells ⟨[(.int .u8 0), (.int .i64 0), (.int .i64 0), (.int .i64 0), (.int .i64 0), (.int .i64 0), (.bool false)]⟩ 35)).setCell ⟨w.heap.size, 0, none⟩ (.int .u8 t46_0)).setCell ⟨w.heap.size, 1, none⟩ (.int .i64 t46_1)).setCell ⟨w.heap.size, 2, none⟩ (.int .i64 t46_2)).setCell ⟨w.heap.size, 3, none⟩ (.int .i64 t46_3)).setCell ⟨w.heap.size, 4, none⟩ (.int .i64 t46_4)).setCell ⟨w.heap.size, 5, none⟩ (.int .i64 t46_5)).setCell ⟨w.heap.size, 6, none⟩ (.bool t46_6)) R B1
  )

def S3_L2 (keep : Int) (d : Option Addr) (j : Option Addr) (all_a : Option Addr) (all_l : Nat) (all_c : Nat) (safe : Int) (t40_a : Option Addr) (t40_l : Nat) (t40_c : Nat) (t41 : Int) (t42 : Int) (w : World) (R : Value → World → Prop) (B1 : (Option Addr × Nat × Nat) × (Int) × (Int) × Unit → World → Prop) : Prop :=
  cond (decide ((t42 : Int) < t41)) (
    S3_k3 keep d j all_a all_l all_c safe t40_a t40_l t40_c t41 t42 w R B1
  ) (
    S3_k4 keep d all_a all_l all_c safe w R
  )

def S3_k1 (l_a : Option Addr) (l_l : Nat) (l_c : Nat) (cut : Int) (keep : Int) (d : Option Addr) (j : Option Addr) (w : World) (R : Value → World → Prop) : Prop :=
  Calls Try.prog 7 ⟨[(.pointer d), (.int .i64 cut)]⟩ w fun e w_ =>
    e = .returned (.tuple ⟨[]⟩) ∧
    ∃ (I : (Option Addr × Nat × Nat) × (Int) × (Int) × Unit → World → Prop) (μ : (Option Addr × Nat × Nat) × (Int) × (Int) × Unit → World → Nat),
    I ((none, 0, 0), 0, 0, ()) w_ ∧
    ∀ (J : Env) (s : (Option Addr × Nat × Nat) × (Int) × (Int) × Unit) (w' : World), I s w' →
      S3_L2 keep d j s.1.1 s.1.2.1 s.1.2.2 s.2.1 l_a l_l l_c ((l_l : Nat) : Int) s.2.2.1 w' R (fun s' w'' => I s' w'' ∧ μ s' w'' < μ s w')

def S3_k0 (l_a : Option Addr) (l_l : Nat) (l_c : Nat) (cut : Int) (keep : Int) (d : Option Addr) (j : Option Addr) (t36 : Bool) (w : World) (R : Value → World → Prop) : Prop :=
  cond t36 (
    R (.bool false) w
  ) (
    S3_k1 l_a l_l l_c cut keep d j w R
  )

def S3 (l_a : Option Addr) (l_l : Nat) (l_c : Nat) (cut : Int) (keep : Int) (w : World) (R : Value → World → Prop) : Prop :=
  Calls Try.prog 5 ⟨[]⟩ w fun e w_ =>
    ∃ (t24 : Option Addr),
    e = .returned (.pointer t24) ∧
    Calls Try.prog 6 ⟨[(.pointer t24)]⟩ w_ fun e w__1 =>
      ∃ (t27_0 : Option Addr) (t27_1_a : Option Addr) (t27_1_l : Nat) (t27_1_c : Nat) (t27_2 : Int),
      e = .returned (.tuple ⟨[(.pointer t27_0), (.slice t27_1_a t27_1_l t27_1_c), (.int .i64 t27_2)]⟩) ∧
      cond (Option.isNone t27_0) (
        S3_k0 l_a l_l l_c cut keep t24 t27_0 true w__1 R
      ) (
        S3_k0 l_a l_l l_c cut keep t24 t27_0 (!decide ((t27_2 : Int) = 0)) w__1 R
      )

theorem S3_eq (l_a : Option Addr) (l_l : Nat) (l_c : Nat) (cut : Int) (keep : Int) (w : World) (R : Value → World → Prop) : Eng.R Try.prog ⟨cal, S3_nx⟩ 126 S3_ann [] (Try.f3.body.getD .skip) (bodyQ Try.prog #[.tmp 6] R) (argE [(.slice l_a l_l l_c), (.int .i64 cut), (.int .i64 keep)]) w = S3 l_a l_l l_c cut keep w R := by kernel_rfl
/-- A call of 'carfax/carfaxtop.TopNoted', by its condition. -/
theorem S3_calls {l_a : Option Addr} {l_l : Nat} {l_c : Nat} {cut : Int} {keep : Int} {w : World} {R : Value → World → Prop} (hS : S3 l_a l_l l_c cut keep w R) : Ret Try.prog 3 [(.slice l_a l_l l_c), (.int .i64 cut), (.int .i64 keep)] w R :=
  R_calls (C := ⟨cal, S3_nx⟩) cal_ok follows Try.func3 (c := Try.f3.body.getD .skip) (res := #[.tmp 6]) (n := 126) (by kernel_rfl) (by kernel_rfl) (by kernel_rfl) (by kernel_rfl) ((S3_eq l_a l_l l_c cut keep w R).mpr hS)

def S4_ann (p : List Nat) : Option LA := match p with
  | [0, 1, 0, 1, 1, 1, 1, 1, 1, 1, 1] => some ⟨[3, 5, 6, 7, 8, 11, 12, 62, 63], [(9, .one .slice), (10, .one .slice), (64, .one (.int .i64))]⟩
  | [0, 1, 1, 1, 1, 1, 0, 0, 1, 1, 0, 0, 1, 0, 1, 1, 1, 1, 1, 1, 1, 1] => some ⟨[3, 5, 6, 7, 8, 9, 10, 11, 12, 62, 63, 64, 244], [(245, .one (.int .i64))]⟩
  | _ => none

def S4_nx (t : Nat) : Option (TypeId × TypeId) := none

def S4_k14 (r : Addr) (s_ : Addr) (h : Addr) (to : Addr) (from_ : Addr) (told_a : Option Addr) (told_l : Nat) (told_c : Nat) (done_a : Option Addr) (done_l : Nat) (done_c : Nat) (comes_c0 : Addr) (comes_c1 : Addr) (back_c0 : Addr) (back_c1 : Addr) (back_c2 : Addr) (t62_a : Option Addr) (t62_l : Nat) (t62_c : Nat) (t63 : Int) (t64 : Int) (t244 : Int) (t245 : Int) (t256 : Bool) (w : World) (R : Value → World → Prop) (B1 : (Option Addr × Nat × Nat) × (Option Addr × Nat × Nat) × (Int) × Unit → World → Prop) (B2 : (Int) × Unit → World → Prop) : Prop :=
  cond t256 (
    R (.bool false) w
  ) (
    B2 ((IntKind.i64.wrap (t245 + 1)), ()) w
  )

def S4_k13 (r : Addr) (s_ : Addr) (h : Addr) (to : Addr) (from_ : Addr) (told_a : Option Addr) (told_l : Nat) (told_c : Nat) (done_a : Option Addr) (done_l : Nat) (done_c : Nat) (comes_c0 : Addr) (comes_c1 : Addr) (back_c0 : Addr) (back_c1 : Addr) (back_c2 : Addr) (t62_a : Option Addr) (t62_l : Nat) (t62_c : Nat) (t63 : Int) (t64 : Int) (t244 : Int) (t245 : Int) (w : World) (R : Value → World → Prop) (B1 : (Option Addr × Nat × Nat) × (Option Addr × Nat × Nat) × (Int) × Unit → World → Prop) (B2 : (Int) × Unit → World → Prop) : Prop :=
  ∃ (t250 : Addr),
  done_a = some t250 ∧
  0 ≤ (t245 : Int) ∧
  (t245 : Int) < ((done_l : Nat) : Int) ∧
  ∃ (t251_0 : Int),
  w.drew.cell? (t250.add (Int.toNat t245 * 3)) = some (.int .u8 t251_0) ∧
  ∃ (t251_1 : Int),
  w.drew.cell? ((t250.add (Int.toNat t245 * 3)).add 1) = some (.int .i64 t251_1) ∧
  ∃ (t251_2 : Int),
  w.drew.cell? ((t250.add (Int.toNat t245 * 3)).add 2) = some (.int .i64 t251_2) ∧
  ∃ (t254 : Addr),
  told_a = some t254 ∧
  0 ≤ (t245 : Int) ∧
  (t245 : Int) < ((told_l : Nat) : Int) ∧
  ∃ (t255_0 : Int),
  w.drew.cell? (t254.add (Int.toNat t245 * 3)) = some (.int .u8 t255_0) ∧
  ∃ (t255_1 : Int),
  w.drew.cell? ((t254.add (Int.toNat t245 * 3)).add 1) = some (.int .i64 t255_1) ∧
  ∃ (t255_2 : Int),
  w.drew.cell? ((t254.add (Int.toNat t245 * 3)).add 2) = some (.int .i64 t255_2) ∧
  ∃ (t256 : Bool) (w_ : World),
  (do eqGuard .neq 67 (.tmp 251) (.tmp 255) (.agg ⟨[(.int .u8 t251_0), (.int .i64 t251_1), (.int .i64 t251_2)]⟩) (.agg ⟨[(.int .u8 t255_0), (.int .i64 t255_1), (.int .i64 t255_2)]⟩); binOp .neq 67 (.agg ⟨[(.int .u8 t251_0), (.int .i64 t251_1), (.int .i64 t251_2)]⟩) (.agg ⟨[(.int .u8 t255_0), (.int .i64 t255_1), (.int .i64 t255_2)]⟩)).run Try.prog w.drew = .ok (.bool t256) w_ ∧
  S4_k14 r s_ h to from_ told_a told_l told_c done_a done_l done_c comes_c0 comes_c1 back_c0 back_c1 back_c2 t62_a t62_l t62_c t63 t64 t244 t245 t256 w_ R B1 B2

def S4_L12 (r : Addr) (s_ : Addr) (h : Addr) (to : Addr) (from_ : Addr) (told_a : Option Addr) (told_l : Nat) (told_c : Nat) (done_a : Option Addr) (done_l : Nat) (done_c : Nat) (comes_c0 : Addr) (comes_c1 : Addr) (back_c0 : Addr) (back_c1 : Addr) (back_c2 : Addr) (t62_a : Option Addr) (t62_l : Nat) (t62_c : Nat) (t63 : Int) (t64 : Int) (t244 : Int) (t245 : Int) (w : World) (R : Value → World → Prop) (B1 : (Option Addr × Nat × Nat) × (Option Addr × Nat × Nat) × (Int) × Unit → World → Prop) (B2 : (Int) × Unit → World → Prop) : Prop :=
  cond (decide ((t245 : Int) < t244)) (
    S4_k13 r s_ h to from_ told_a told_l told_c done_a done_l done_c comes_c0 comes_c1 back_c0 back_c1 back_c2 t62_a t62_l t62_c t63 t64 t244 t245 w R B1 B2
  ) (
    B1 ((told_a, told_l, told_c), (done_a, done_l, done_c), (IntKind.i64.wrap (t64 + 1)), ()) w
  )

def S4_k11 (r : Addr) (s_ : Addr) (h : Addr) (to : Addr) (from_ : Addr) (told_a : Option Addr) (told_l : Nat) (told_c : Nat) (done_a : Option Addr) (done_l : Nat) (done_c : Nat) (comes_c0 : Addr) (comes_c1 : Addr) (back_c0 : Addr) (back_c1 : Addr) (back_c2 : Addr) (t62_a : Option Addr) (t62_l : Nat) (t62_c : Nat) (t63 : Int) (t64 : Int) (w : World) (R : Value → World → Prop) (B1 : (Option Addr × Nat × Nat) × (Option Addr × Nat × Nat) × (Int) × Unit → World → Prop) : Prop :=
  ∃ (I : (Int) × Unit → World → Prop) (μ : (Int) × Unit → World → Nat),
  I (0, ()) w ∧
  ∀ (J : Env) (s : (Int) × Unit) (w' : World), I s w' →
    S4_L12 r s_ h to from_ told_a told_l told_c done_a done_l done_c comes_c0 comes_c1 back_c0 back_c1 back_c2 t62_a t62_l t62_c t63 t64 ((done_l : Nat) : Int) s.1 w' R B1 (fun s' w'' => I s' w'' ∧ μ s' w'' < μ s w')

def S4_k10 (r : Addr) (s_ : Addr) (h : Addr) (to : Addr) (from_ : Addr) (told_a : Option Addr) (told_l : Nat) (told_c : Nat) (done_a : Option Addr) (done_l : Nat) (done_c : Nat) (comes_c0 : Addr) (comes_c1 : Addr) (back_c0 : Addr) (back_c1 : Addr) (back_c2 : Addr) (t62_a : Option Addr) (t62_l : Nat) (t62_c : Nat) (t63 : Int) (t64 : Int) (t242 : Bool) (w : World) (R : Value → World → Prop) (B1 : (Option Addr × Nat × Nat) × (Option Addr × Nat × Nat) × (Int) × Unit → World → Prop) : Prop :=
  cond t242 (
    R (.bool false) w
  ) (
    S4_k11 r s_ h to from_ told_a told_l told_c done_a done_l done_c comes_c0 comes_c1 back_c0 back_c1 back_c2 t62_a t62_l t62_c t63 t64 w R B1
  )

def S4_k9 (r : Addr) (s_ : Addr) (h : Addr) (to : Addr) (from_ : Addr) (told_a : Option Addr) (told_l : Nat) (told_c : Nat) (done_a : Option Addr) (done_l : Nat) (done_c : Nat) (comes_c0 : Addr) (comes_c1 : Addr) (back_c0 : Addr) (back_c1 : Addr) (back_c2 : Addr) (t62_a : Option Addr) (t62_l : Nat) (t62_c : Nat) (t63 : Int) (t64 : Int) (w : World) (R : Value → World → Prop) (B1 : (Option Addr × Nat × Nat) × (Option Addr × Nat × Nat) × (Int) × Unit → World → Prop) : Prop :=
  cond (decide ((((told_l : Nat) : Int) : Int) < ((done_l : Nat) : Int))) (
    (
      (
        S4_k10 r s_ h to from_ told_a told_l told_c done_a done_l done_c comes_c0 comes_c1 back_c0 back_c1 back_c2 t62_a t62_l t62_c t63 t64 true w.drew R B1
      ) ∧
      (
        S4_k10 r s_ h to from_ told_a told_l told_c done_a done_l done_c comes_c0 comes_c1 back_c0 back_c1 back_c2 t62_a t62_l t62_c t63 t64 true w.drew R B1
      )
    ) ∧
    (
      (
        S4_k10 r s_ h to from_ told_a told_l told_c done_a done_l done_c comes_c0 comes_c1 back_c0 back_c1 back_c2 t62_a t62_l t62_c t63 t64 true w.drew R B1
      ) ∧
      (
        S4_k10 r s_ h to from_ told_a told_l told_c done_a done_l done_c comes_c0 comes_c1 back_c0 back_c1 back_c2 t62_a t62_l t62_c t63 t64 true w.drew R B1
      )
    )
  ) (
    cond (decide (((IntKind.i64.wrap (((done_l : Nat) : Int) + 1)) : Int) < ((told_l : Nat) : Int))) (
      (
        (
          S4_k10 r s_ h to from_ told_a told_l told_c done_a done_l done_c comes_c0 comes_c1 back_c0 back_c1 back_c2 t62_a t62_l t62_c t63 t64 true w.drew R B1
        ) ∧
        (
          S4_k10 r s_ h to from_ told_a told_l told_c done_a done_l done_c comes_c0 comes_c1 back_c0 back_c1 back_c2 t62_a t62_l t62_c t63 t64 true w.drew R B1
        )
      ) ∧
      (
        (
          S4_k10 r s_ h to from_ told_a told_l told_c done_a done_l done_c comes_c0 comes_c1 back_c0 back_c1 back_c2 t62_a t62_l t62_c t63 t64 true w.drew R B1
        ) ∧
        (
          S4_k10 r s_ h to from_ told_a told_l told_c done_a done_l done_c comes_c0 comes_c1 back_c0 back_c1 back_c2 t62_a t62_l t62_c t63 t64 true w.drew R B1
        )
      )
    ) (
      ∃ (t221 : Option Addr),
      w.drew.cell? r = some (.pointer t221) ∧
      Calls Try.prog 37 ⟨[(.pointer t221)]⟩ w.drew fun e w_ =>
        ∃ (t222 : Int),
        e = .returned (.int .u64 t222) ∧
        cond (!decide ((t222 : Int) = (IntKind.u64.wrap ((done_l : Nat) : Int)))) (
          (
            (
              S4_k10 r s_ h to from_ told_a told_l told_c done_a done_l done_c comes_c0 comes_c1 back_c0 back_c1 back_c2 t62_a t62_l t62_c t63 t64 true w_ R B1
            ) ∧
            (
              S4_k10 r s_ h to from_ told_a told_l told_c done_a done_l done_c comes_c0 comes_c1 back_c0 back_c1 back_c2 t62_a t62_l t62_c t63 t64 true w_ R B1
            )
          ) ∧
          (
            (
              S4_k10 r s_ h to from_ told_a told_l told_c done_a done_l done_c comes_c0 comes_c1 back_c0 back_c1 back_c2 t62_a t62_l t62_c t63 t64 true w_ R B1
            ) ∧
            (
              S4_k10 r s_ h to from_ told_a told_l told_c done_a done_l done_c comes_c0 comes_c1 back_c0 back_c1 back_c2 t62_a t62_l t62_c t63 t64 true w_ R B1
            )
          )
        ) (
          ∃ (t229 : Option Addr),
          w_.cell? h = some (.pointer t229) ∧
          (
            Calls Try.prog 27 ⟨[(.pointer t229)]⟩ w_ fun e w__1 =>
              ∃ (t230 : Int),
              e = .returned (.int .u64 t230) ∧
              ∃ (t231 : Option Addr),
              w__1.cell? r = some (.pointer t231) ∧
              Calls Try.prog 37 ⟨[(.pointer t231)]⟩ w__1 fun e w__2 =>
                ∃ (t232 : Int),
                e = .returned (.int .u64 t232) ∧
                cond (decide ((t232 : Int) < t230)) (
                  (
                    S4_k10 r s_ h to from_ told_a told_l told_c done_a done_l done_c comes_c0 comes_c1 back_c0 back_c1 back_c2 t62_a t62_l t62_c t63 t64 true w__2 R B1
                  ) ∧
                  (
                    S4_k10 r s_ h to from_ told_a told_l told_c done_a done_l done_c comes_c0 comes_c1 back_c0 back_c1 back_c2 t62_a t62_l t62_c t63 t64 true w__2 R B1
                  )
                ) (
                  ∃ (t236 : Option Addr),
                  w__2.cell? h = some (.pointer t236) ∧
                  (
                    Calls Try.prog 27 ⟨[(.pointer t236)]⟩ w__2 fun e w__3 =>
                      ∃ (t237 : Int),
                      e = .returned (.int .u64 t237) ∧
                      ∃ (t239 : Option Addr),
                      w__3.cell? r = some (.pointer t239) ∧
                      Calls Try.prog 37 ⟨[(.pointer t239)]⟩ w__3 fun e w__4 =>
                        ∃ (t240 : Int),
                        e = .returned (.int .u64 t240) ∧
                        S4_k10 r s_ h to from_ told_a told_l told_c done_a done_l done_c comes_c0 comes_c1 back_c0 back_c1 back_c2 t62_a t62_l t62_c t63 t64 (decide (((IntKind.u64.wrap (t237 + 1)) : Int) < t240)) w__4 R B1
                  ) ∧
                  (
                    ∃ (t239_1 : Option Addr),
                    w__2.cell? r = some (.pointer t239_1) ∧
                    Calls Try.prog 27 ⟨[(.pointer t236)]⟩ w__2 fun e w__5 =>
                      ∃ (t237_1 : Int),
                      e = .returned (.int .u64 t237_1) ∧
                      Calls Try.prog 37 ⟨[(.pointer t239_1)]⟩ w__5 fun e w__6 =>
                        ∃ (t240_1 : Int),
                        e = .returned (.int .u64 t240_1) ∧
                        S4_k10 r s_ h to from_ told_a told_l told_c done_a done_l done_c comes_c0 comes_c1 back_c0 back_c1 back_c2 t62_a t62_l t62_c t63 t64 (decide (((IntKind.u64.wrap (t237_1 + 1)) : Int) < t240_1)) w__6 R B1
                  )
                )
          ) ∧
          (
            ∃ (t231_1 : Option Addr),
            w_.cell? r = some (.pointer t231_1) ∧
            Calls Try.prog 27 ⟨[(.pointer t229)]⟩ w_ fun e w__7 =>
              ∃ (t230_1 : Int),
              e = .returned (.int .u64 t230_1) ∧
              Calls Try.prog 37 ⟨[(.pointer t231_1)]⟩ w__7 fun e w__8 =>
                ∃ (t232_1 : Int),
                e = .returned (.int .u64 t232_1) ∧
                cond (decide ((t232_1 : Int) < t230_1)) (
                  (
                    S4_k10 r s_ h to from_ told_a told_l told_c done_a done_l done_c comes_c0 comes_c1 back_c0 back_c1 back_c2 t62_a t62_l t62_c t63 t64 true w__8 R B1
                  ) ∧
                  (
                    S4_k10 r s_ h to from_ told_a told_l told_c done_a done_l done_c comes_c0 comes_c1 back_c0 back_c1 back_c2 t62_a t62_l t62_c t63 t64 true w__8 R B1
                  )
                ) (
                  ∃ (t236_1 : Option Addr),
                  w__8.cell? h = some (.pointer t236_1) ∧
                  (
                    Calls Try.prog 27 ⟨[(.pointer t236_1)]⟩ w__8 fun e w__9 =>
                      ∃ (t237_2 : Int),
                      e = .returned (.int .u64 t237_2) ∧
                      ∃ (t239_2 : Option Addr),
                      w__9.cell? r = some (.pointer t239_2) ∧
                      Calls Try.prog 37 ⟨[(.pointer t239_2)]⟩ w__9 fun e w__10 =>
                        ∃ (t240_2 : Int),
                        e = .returned (.int .u64 t240_2) ∧
                        S4_k10 r s_ h to from_ told_a told_l told_c done_a done_l done_c comes_c0 comes_c1 back_c0 back_c1 back_c2 t62_a t62_l t62_c t63 t64 (decide (((IntKind.u64.wrap (t237_2 + 1)) : Int) < t240_2)) w__10 R B1
                  ) ∧
                  (
                    ∃ (t239_3 : Option Addr),
                    w__8.cell? r = some (.pointer t239_3) ∧
                    Calls Try.prog 27 ⟨[(.pointer t236_1)]⟩ w__8 fun e w__11 =>
                      ∃ (t237_3 : Int),
                      e = .returned (.int .u64 t237_3) ∧
                      Calls Try.prog 37 ⟨[(.pointer t239_3)]⟩ w__11 fun e w__12 =>
                        ∃ (t240_3 : Int),
                        e = .returned (.int .u64 t240_3) ∧
                        S4_k10 r s_ h to from_ told_a told_l told_c done_a done_l done_c comes_c0 comes_c1 back_c0 back_c1 back_c2 t62_a t62_l t62_c t63 t64 (decide (((IntKind.u64.wrap (t237_3 + 1)) : Int) < t240_3)) w__12 R B1
                  )
                )
          )
        )
    )
  )

def S4_k8 (r : Addr) (s_ : Addr) (h : Addr) (to : Addr) (from_ : Addr) (told_a : Option Addr) (told_l : Nat) (told_c : Nat) (done_a : Option Addr) (done_l : Nat) (done_c : Nat) (comes_c0 : Addr) (comes_c1 : Addr) (back_c0 : Addr) (back_c1 : Addr) (back_c2 : Addr) (a : Addr) (t62_a : Option Addr) (t62_l : Nat) (t62_c : Nat) (t63 : Int) (t64 : Int) (w : World) (R : Value → World → Prop) (B1 : (Option Addr × Nat × Nat) × (Option Addr × Nat × Nat) × (Int) × Unit → World → Prop) : Prop :=
  ∃ (t128_0 : Int),
  w.cell? (a.add 1) = some (.int .u8 t128_0) ∧
  ∃ (t128_1 : Int),
  w.cell? ((a.add 1).add 1) = some (.int .i64 t128_1) ∧
  ∃ (t128_2 : Int),
  w.cell? ((a.add 1).add 2) = some (.int .i64 t128_2) ∧
  ∃ (t130_a : Option Addr) (t130_l : Nat) (t130_c : Nat) (w_ : World),
  (Builtin.append_ #[56, 56] 56 ⟨[(.slice told_a told_l told_c), (.slice (some ⟨w.heap.size, 0, none⟩) 1 1)]⟩).run Try.prog (w.alloc (.cells ⟨[(.int .u8 t128_0), (.int .i64 t128_1), (.int .i64 t128_2)]⟩ 67)) = .ok (.slice t130_a t130_l t130_c) w_ ∧
  S4_k9 r s_ h to from_ t130_a t130_l t130_c done_a done_l done_c comes_c0 comes_c1 back_c0 back_c1 back_c2 t62_a t62_l t62_c t63 t64 w_ R B1

def S4_k7 (r : Addr) (s_ : Addr) (h : Addr) (to : Addr) (from_ : Addr) (told_a : Option Addr) (told_l : Nat) (told_c : Nat) (done_a : Option Addr) (done_l : Nat) (done_c : Nat) (comes_c0 : Addr) (comes_c1 : Addr) (back_c0 : Addr) (back_c1 : Addr) (back_c2 : Addr) (a : Addr) (b_a : Option Addr) (b_l : Nat) (b_c : Nat) (t62_a : Option Addr) (t62_l : Nat) (t62_c : Nat) (t63 : Int) (t64 : Int) (w : World) (R : Value → World → Prop) (B1 : (Option Addr × Nat × Nat) × (Option Addr × Nat × Nat) × (Int) × Unit → World → Prop) : Prop :=
  ∃ (t122 : Option Addr),
  w.cell? s_ = some (.pointer t122) ∧
  Calls Try.prog 30 ⟨[(.pointer t122), (.slice b_a b_l b_c)]⟩ w fun e w_ =>
    ∃ (t124 : Int),
    e = .returned (.int .i64 t124) ∧
    cond (!decide ((t124 : Int) = 0)) (
      R (.bool false) w_
    ) (
      S4_k8 r s_ h to from_ told_a told_l told_c done_a done_l done_c comes_c0 comes_c1 back_c0 back_c1 back_c2 a t62_a t62_l t62_c t63 t64 w_ R B1
    )

def S4_k6 (r : Addr) (s_ : Addr) (h : Addr) (to : Addr) (from_ : Addr) (told_a : Option Addr) (told_l : Nat) (told_c : Nat) (done_a : Option Addr) (done_l : Nat) (done_c : Nat) (comes_c0 : Addr) (comes_c1 : Addr) (back_c0 : Addr) (back_c1 : Addr) (back_c2 : Addr) (a : Addr) (b_a : Option Addr) (b_l : Nat) (b_c : Nat) (t62_a : Option Addr) (t62_l : Nat) (t62_c : Nat) (t63 : Int) (t64 : Int) (w : World) (R : Value → World → Prop) (B1 : (Option Addr × Nat × Nat) × (Option Addr × Nat × Nat) × (Int) × Unit → World → Prop) : Prop :=
  ∃ (t102 : Option Addr),
  w.cell? s_ = some (.pointer t102) ∧
  Calls Try.prog 28 ⟨[(.pointer t102)]⟩ w fun e w_ =>
    ∃ (t103_0_a : Option Addr) (t103_0_l : Nat) (t103_0_c : Nat) (t103_1 : Bool),
    e = .returned (.tuple ⟨[(.slice t103_0_a t103_0_l t103_0_c), (.bool t103_1)]⟩) ∧
    cond t103_1 (
      Calls Try.prog 19 ⟨[(.slice t103_0_a t103_0_l t103_0_c)]⟩ w_ fun e w__1 =>
        ∃ (t109_0_0 : Bool) (t109_0_1 : Int) (t109_0_2_a : Option Addr) (t109_0_2_l : Nat) (t109_0_2_c : Nat) (t109_1 : Int),
        e = .returned (.tuple ⟨[(.agg ⟨[(.bool t109_0_0), (.int .u64 t109_0_1), (.slice t109_0_2_a t109_0_2_l t109_0_2_c)]⟩), (.int .i64 t109_1)]⟩) ∧
        (∃ u, (w__1.alloc (.cells ⟨[(.bool false), (.int .u64 0), (.slice none 0 0)]⟩ 58)).cell? ⟨w__1.heap.size, 0, none⟩ = some u) ∧
        (w__1.alloc (.cells ⟨[(.bool false), (.int .u64 0), (.slice none 0 0)]⟩ 58)).frozen? ⟨w__1.heap.size, 0, none⟩ = false ∧
        (∃ u, ((w__1.alloc (.cells ⟨[(.bool false), (.int .u64 0), (.slice none 0 0)]⟩ 58)).setCell ⟨w__1.heap.size, 0, none⟩ (.bool t109_0_0)).cell? ⟨w__1.heap.size, 1, none⟩ = some u) ∧
        ((w__1.alloc (.cells ⟨[(.bool false), (.int .u64 0), (.slice none 0 0)]⟩ 58)).setCell ⟨w__1.heap.size, 0, none⟩ (.bool t109_0_0)).frozen? ⟨w__1.heap.size, 1, none⟩ = false ∧
        (∃ u, (((w__1.alloc (.cells ⟨[(.bool false), (.int .u64 0), (.slice none 0 0)]⟩ 58)).setCell ⟨w__1.heap.size, 0, none⟩ (.bool t109_0_0)).setCell ⟨w__1.heap.size, 1, none⟩ (.int .u64 t109_0_1)).cell? ⟨w__1.heap.size, 2, none⟩ = some u) ∧
        (((w__1.alloc (.cells ⟨[(.bool false), (.int .u64 0), (.slice none 0 0)]⟩ 58)).setCell ⟨w__1.heap.size, 0, none⟩ (.bool t109_0_0)).setCell ⟨w__1.heap.size, 1, none⟩ (.int .u64 t109_0_1)).frozen? ⟨w__1.heap.size, 2, none⟩ = false ∧
        ∃ (t114 : Int),
        ((((w__1.alloc (.cells ⟨[(.bool false), (.int .u64 0), (.slice none 0 0)]⟩ 58)).setCell ⟨w__1.heap.size, 0, none⟩ (.bool t109_0_0)).setCell ⟨w__1.heap.size, 1, none⟩ (.int .u64 t109_0_1)).setCell ⟨w__1.heap.size, 2, none⟩ (.slice t109_0_2_a t109_0_2_l t109_0_2_c)).cell? ⟨w__1.heap.size, 1, none⟩ = some (.int .u64 t114) ∧
        Calls Try.prog 29 ⟨[(.agg ⟨[(.bool true), (.int .u64 t114), (.slice none 0 0)]⟩)]⟩ ((((w__1.alloc (.cells ⟨[(.bool false), (.int .u64 0), (.slice none 0 0)]⟩ 58)).setCell ⟨w__1.heap.size, 0, none⟩ (.bool t109_0_0)).setCell ⟨w__1.heap.size, 1, none⟩ (.int .u64 t109_0_1)).setCell ⟨w__1.heap.size, 2, none⟩ (.slice t109_0_2_a t109_0_2_l t109_0_2_c)) fun e w__2 =>
          ∃ (t116_0_a : Option Addr) (t116_0_l : Nat) (t116_0_c : Nat) (t116_1 : Int),
          e = .returned (.tuple ⟨[(.slice t116_0_a t116_0_l t116_0_c), (.int .i64 t116_1)]⟩) ∧
          ∃ (t119 : Option Addr),
          w__2.cell? s_ = some (.pointer t119) ∧
          Calls Try.prog 24 ⟨[(.pointer t119), (.slice t116_0_a t116_0_l t116_0_c)]⟩ w__2 fun e w__3 =>
            ∃ (t121 : Bool),
            e = .returned (.bool t121) ∧
            S4_k7 r s_ h to from_ told_a told_l told_c done_a done_l done_c comes_c0 comes_c1 back_c0 back_c1 back_c2 a b_a b_l b_c t62_a t62_l t62_c t63 t64 w__3 R B1
    ) (
      S4_k7 r s_ h to from_ told_a told_l told_c done_a done_l done_c comes_c0 comes_c1 back_c0 back_c1 back_c2 a b_a b_l b_c t62_a t62_l t62_c t63 t64 w_ R B1
    )

def S4_k5 (r : Addr) (s_ : Addr) (h : Addr) (to : Addr) (from_ : Addr) (told_a : Option Addr) (told_l : Nat) (told_c : Nat) (done_a : Option Addr) (done_l : Nat) (done_c : Nat) (comes_c0 : Addr) (comes_c1 : Addr) (back_c0 : Addr) (back_c1 : Addr) (back_c2 : Addr) (a : Addr) (b_a : Option Addr) (b_l : Nat) (b_c : Nat) (t62_a : Option Addr) (t62_l : Nat) (t62_c : Nat) (t63 : Int) (t64 : Int) (t100 : Bool) (w : World) (R : Value → World → Prop) (B1 : (Option Addr × Nat × Nat) × (Option Addr × Nat × Nat) × (Int) × Unit → World → Prop) : Prop :=
  cond t100 (
    B1 ((told_a, told_l, told_c), (done_a, done_l, done_c), (IntKind.i64.wrap (t64 + 1)), ()) w
  ) (
    S4_k6 r s_ h to from_ told_a told_l told_c done_a done_l done_c comes_c0 comes_c1 back_c0 back_c1 back_c2 a b_a b_l b_c t62_a t62_l t62_c t63 t64 w R B1
  )

def S4_k4 (r : Addr) (s_ : Addr) (h : Addr) (to : Addr) (from_ : Addr) (told_a : Option Addr) (told_l : Nat) (told_c : Nat) (done_a : Option Addr) (done_l : Nat) (done_c : Nat) (comes_c0 : Addr) (comes_c1 : Addr) (back_c0 : Addr) (back_c1 : Addr) (back_c2 : Addr) (a : Addr) (t62_a : Option Addr) (t62_l : Nat) (t62_c : Nat) (t63 : Int) (t64 : Int) (w : World) (R : Value → World → Prop) (B1 : (Option Addr × Nat × Nat) × (Option Addr × Nat × Nat) × (Int) × Unit → World → Prop) : Prop :=
  ∃ (t72 : Int),
  w.cell? a = some (.int .u8 t72) ∧
  (10 : Int) ≠ 0 ∧
  cond (decide (((Int.tmod t72 10) : Int) = 0)) (
    ∃ (t87_0 : Int),
    w.cell? (a.add 1) = some (.int .u8 t87_0) ∧
    ∃ (t87_1 : Int),
    w.cell? ((a.add 1).add 1) = some (.int .i64 t87_1) ∧
    ∃ (t87_2 : Int),
    w.cell? ((a.add 1).add 2) = some (.int .i64 t87_2) ∧
    Calls Try.prog 26 ⟨[(.agg ⟨[(.int .u8 t87_0), (.int .i64 t87_1), (.int .i64 t87_2)]⟩)]⟩ w fun e w_ =>
      ∃ (t88_0_a : Option Addr) (t88_0_l : Nat) (t88_0_c : Nat) (t88_1 : Int),
      e = .returned (.tuple ⟨[(.slice t88_0_a t88_0_l t88_0_c), (.int .i64 t88_1)]⟩) ∧
      cond (!decide ((t88_1 : Int) = 0)) (
        S4_k5 r s_ h to from_ told_a told_l told_c done_a done_l done_c comes_c0 comes_c1 back_c0 back_c1 back_c2 a t88_0_a t88_0_l t88_0_c t62_a t62_l t62_c t63 t64 true w_ R B1
      ) (
        ∃ (t94 : Option Addr),
        w_.cell? h = some (.pointer t94) ∧
        Calls Try.prog 27 ⟨[(.pointer t94)]⟩ w_ fun e w__1 =>
          ∃ (t95 : Int),
          e = .returned (.int .u64 t95) ∧
          S4_k5 r s_ h to from_ told_a told_l told_c done_a done_l done_c comes_c0 comes_c1 back_c0 back_c1 back_c2 a t88_0_a t88_0_l t88_0_c t62_a t62_l t62_c t63 t64 (!decide ((t95 : Int) = (IntKind.u64.wrap ((told_l : Nat) : Int)))) w__1 R B1
      )
  ) (
    cond (decide (((Int.tmod t72 10) : Int) = 1)) (
      ∃ (t134 : Option Addr),
      w.cell? s_ = some (.pointer t134) ∧
      Calls Try.prog 28 ⟨[(.pointer t134)]⟩ w fun e w__2 =>
        ∃ (t135_0_a : Option Addr) (t135_0_l : Nat) (t135_0_c : Nat) (t135_1 : Bool),
        e = .returned (.tuple ⟨[(.slice t135_0_a t135_0_l t135_0_c), (.bool t135_1)]⟩) ∧
        cond t135_1 (
          ∃ (t139 : Option Addr),
          w__2.cell? to = some (.pointer t139) ∧
          Calls Try.prog 22 ⟨[(.pointer t139), (.slice t135_0_a t135_0_l t135_0_c)]⟩ w__2 fun e w__3 =>
            ∃ (t141 : Int),
            e = .returned (.int .i64 t141) ∧
            S4_k9 r s_ h to from_ told_a told_l told_c done_a done_l done_c comes_c0 comes_c1 back_c0 back_c1 back_c2 t62_a t62_l t62_c t63 t64 w__3 R B1
        ) (
          S4_k9 r s_ h to from_ told_a told_l told_c done_a done_l done_c comes_c0 comes_c1 back_c0 back_c1 back_c2 t62_a t62_l t62_c t63 t64 w__2 R B1
        )
    ) (
      cond (decide (((Int.tmod t72 10) : Int) = 2)) (
        ∃ (t145 : Option Addr),
        w.cell? to = some (.pointer t145) ∧
        ∃ (t147 : Int),
        w.cell? (a.add 4) = some (.int .i64 t147) ∧
        Calls Try.prog 31 ⟨[(.pointer t145), (.int .i64 t147)]⟩ w fun e w__4 =>
          ∃ (t148_0_a : Option Addr) (t148_0_l : Nat) (t148_0_c : Nat) (t148_1 : Bool),
          e = .returned (.tuple ⟨[(.slice t148_0_a t148_0_l t148_0_c), (.bool t148_1)]⟩) ∧
          Calls Try.prog 18 ⟨[(.slice t148_0_a t148_0_l t148_0_c), (.bool t148_1), (.pointer (some comes_c0)), (.pointer (some comes_c1))]⟩ w__4 fun e w__5 =>
            e = .returned (.tuple ⟨[]⟩) ∧
            S4_k9 r s_ h to from_ told_a told_l told_c done_a done_l done_c comes_c0 comes_c1 back_c0 back_c1 back_c2 t62_a t62_l t62_c t63 t64 w__5 R B1
      ) (
        cond (decide (((Int.tmod t72 10) : Int) = 3)) (
          ∃ (t155 : Option Addr),
          w.cell? from_ = some (.pointer t155) ∧
          ∃ (t157 : Int),
          w.cell? (a.add 4) = some (.int .i64 t157) ∧
          Calls Try.prog 31 ⟨[(.pointer t155), (.int .i64 t157)]⟩ w fun e w__6 =>
            ∃ (t158_0_a : Option Addr) (t158_0_l : Nat) (t158_0_c : Nat) (t158_1 : Bool),
            e = .returned (.tuple ⟨[(.slice t158_0_a t158_0_l t158_0_c), (.bool t158_1)]⟩) ∧
            Calls Try.prog 23 ⟨[(.slice t158_0_a t158_0_l t158_0_c), (.bool t158_1), (.pointer (some back_c0)), (.pointer (some back_c1)), (.pointer (some back_c2))]⟩ w__6 fun e w__7 =>
              e = .returned (.tuple ⟨[]⟩) ∧
              S4_k9 r s_ h to from_ told_a told_l told_c done_a done_l done_c comes_c0 comes_c1 back_c0 back_c1 back_c2 t62_a t62_l t62_c t63 t64 w__7 R B1
        ) (
          cond (decide (((Int.tmod t72 10) : Int) = 4)) (
            ∃ (t165 : Option Addr),
            w.cell? to = some (.pointer t165) ∧
            ∃ (t167 : Int),
            w.cell? (a.add 4) = some (.int .i64 t167) ∧
            Calls Try.prog 32 ⟨[(.pointer t165), (.int .i64 t167)]⟩ w fun e w__8 =>
              ∃ (t168_0_a : Option Addr) (t168_0_l : Nat) (t168_0_c : Nat) (t168_1 : Bool),
              e = .returned (.tuple ⟨[(.slice t168_0_a t168_0_l t168_0_c), (.bool t168_1)]⟩) ∧
              Calls Try.prog 18 ⟨[(.slice t168_0_a t168_0_l t168_0_c), (.bool t168_1), (.pointer (some comes_c0)), (.pointer (some comes_c1))]⟩ w__8 fun e w__9 =>
                e = .returned (.tuple ⟨[]⟩) ∧
                S4_k9 r s_ h to from_ told_a told_l told_c done_a done_l done_c comes_c0 comes_c1 back_c0 back_c1 back_c2 t62_a t62_l t62_c t63 t64 w__9 R B1
          ) (
            cond (decide (((Int.tmod t72 10) : Int) = 5)) (
              ∃ (t175 : Option Addr),
              w.cell? from_ = some (.pointer t175) ∧
              ∃ (t177 : Int),
              w.cell? (a.add 4) = some (.int .i64 t177) ∧
              Calls Try.prog 32 ⟨[(.pointer t175), (.int .i64 t177)]⟩ w fun e w__10 =>
                ∃ (t178_0_a : Option Addr) (t178_0_l : Nat) (t178_0_c : Nat) (t178_1 : Bool),
                e = .returned (.tuple ⟨[(.slice t178_0_a t178_0_l t178_0_c), (.bool t178_1)]⟩) ∧
                Calls Try.prog 23 ⟨[(.slice t178_0_a t178_0_l t178_0_c), (.bool t178_1), (.pointer (some back_c0)), (.pointer (some back_c1)), (.pointer (some back_c2))]⟩ w__10 fun e w__11 =>
                  e = .returned (.tuple ⟨[]⟩) ∧
                  S4_k9 r s_ h to from_ told_a told_l told_c done_a done_l done_c comes_c0 comes_c1 back_c0 back_c1 back_c2 t62_a t62_l t62_c t63 t64 w__11 R B1
            ) (
              cond (decide (((Int.tmod t72 10) : Int) = 6)) (
                ∃ (t184 : Option Addr),
                w.cell? to = some (.pointer t184) ∧
                ∃ (t186 : Int),
                w.cell? (a.add 4) = some (.int .i64 t186) ∧
                Calls Try.prog 33 ⟨[(.pointer t184), (.int .i64 t186)]⟩ w fun e w__12 =>
                  ∃ (t187 : Bool),
                  e = .returned (.bool t187) ∧
                  S4_k9 r s_ h to from_ told_a told_l told_c done_a done_l done_c comes_c0 comes_c1 back_c0 back_c1 back_c2 t62_a t62_l t62_c t63 t64 w__12 R B1
              ) (
                cond (decide (((Int.tmod t72 10) : Int) = 7)) (
                  ∃ (t190 : Option Addr),
                  w.cell? from_ = some (.pointer t190) ∧
                  ∃ (t192 : Int),
                  w.cell? (a.add 4) = some (.int .i64 t192) ∧
                  Calls Try.prog 33 ⟨[(.pointer t190), (.int .i64 t192)]⟩ w fun e w__13 =>
                    ∃ (t193 : Bool),
                    e = .returned (.bool t193) ∧
                    S4_k9 r s_ h to from_ told_a told_l told_c done_a done_l done_c comes_c0 comes_c1 back_c0 back_c1 back_c2 t62_a t62_l t62_c t63 t64 w__13 R B1
                ) (
                  cond (decide (((Int.tmod t72 10) : Int) = 8)) (
                    ∃ (t197 : Option Addr),
                    w.cell? r = some (.pointer t197) ∧
                    Calls Try.prog 34 ⟨[(.pointer t197)]⟩ w fun e w__14 =>
                      ∃ (t198_0_0 : Int) (t198_0_1 : Int) (t198_0_2 : Int) (t198_1 : Bool),
                      e = .returned (.tuple ⟨[(.agg ⟨[(.int .u8 t198_0_0), (.int .i64 t198_0_1), (.int .i64 t198_0_2)]⟩), (.bool t198_1)]⟩) ∧
                      (∃ u, (w__14.alloc (.cells ⟨[(.int .u8 0), (.int .i64 0), (.int .i64 0)]⟩ 67)).cell? ⟨w__14.heap.size, 0, none⟩ = some u) ∧
                      (w__14.alloc (.cells ⟨[(.int .u8 0), (.int .i64 0), (.int .i64 0)]⟩ 67)).frozen? ⟨w__14.heap.size, 0, none⟩ = false ∧
                      (∃ u, ((w__14.alloc (.cells ⟨[(.int .u8 0), (.int .i64 0), (.int .i64 0)]⟩ 67)).setCell ⟨w__14.heap.size, 0, none⟩ (.int .u8 t198_0_0)).cell? ⟨w__14.heap.size, 1, none⟩ = some u) ∧
                      ((w__14.alloc (.cells ⟨[(.int .u8 0), (.int .i64 0), (.int .i64 0)]⟩ 67)).setCell ⟨w__14.heap.size, 0, none⟩ (.int .u8 t198_0_0)).frozen? ⟨w__14.heap.size, 1, none⟩ = false ∧
                      (∃ u, (((w__14.alloc (.cells ⟨[(.int .u8 0), (.int .i64 0), (.int .i64 0)]⟩ 67)).setCell ⟨w__14.heap.size, 0, none⟩ (.int .u8 t198_0_0)).setCell ⟨w__14.heap.size, 1, none⟩ (.int .i64 t198_0_1)).cell? ⟨w__14.heap.size, 2, none⟩ = some u) ∧
                      (((w__14.alloc (.cells ⟨[(.int .u8 0), (.int .i64 0), (.int .i64 0)]⟩ 67)).setCell ⟨w__14.heap.size, 0, none⟩ (.int .u8 t198_0_0)).setCell ⟨w__14.heap.size, 1, none⟩ (.int .i64 t198_0_1)).frozen? ⟨w__14.heap.size, 2, none⟩ = false ∧
                      ∃ (t201 : Option Addr),
                      ((((w__14.alloc (.cells ⟨[(.int .u8 0), (.int .i64 0), (.int .i64 0)]⟩ 67)).setCell ⟨w__14.heap.size, 0, none⟩ (.int .u8 t198_0_0)).setCell ⟨w__14.heap.size, 1, none⟩ (.int .i64 t198_0_1)).setCell ⟨w__14.heap.size, 2, none⟩ (.int .i64 t198_0_2)).cell? r = some (.pointer t201) ∧
                      Calls Try.prog 35 ⟨[(.pointer t201)]⟩ ((((w__14.alloc (.cells ⟨[(.int .u8 0), (.int .i64 0), (.int .i64 0)]⟩ 67)).setCell ⟨w__14.heap.size, 0, none⟩ (.int .u8 t198_0_0)).setCell ⟨w__14.heap.size, 1, none⟩ (.int .i64 t198_0_1)).setCell ⟨w__14.heap.size, 2, none⟩ (.int .i64 t198_0_2)) fun e w__15 =>
                        ∃ (t202 : Bool),
                        e = .returned (.bool t202) ∧
                        cond t202 (
                          ∃ (t204_0 : Int),
                          w__15.cell? ⟨w__14.heap.size, 0, none⟩ = some (.int .u8 t204_0) ∧
                          ∃ (t204_1 : Int),
                          w__15.cell? ⟨w__14.heap.size, 1, none⟩ = some (.int .i64 t204_1) ∧
                          ∃ (t204_2 : Int),
                          w__15.cell? ⟨w__14.heap.size, 2, none⟩ = some (.int .i64 t204_2) ∧
                          ∃ (t206_a : Option Addr) (t206_l : Nat) (t206_c : Nat) (w__16 : World),
                          (Builtin.append_ #[56, 56] 56 ⟨[(.slice done_a done_l done_c), (.slice (some ⟨w__15.heap.size, 0, none⟩) 1 1)]⟩).run Try.prog (w__15.alloc (.cells ⟨[(.int .u8 t204_0), (.int .i64 t204_1), (.int .i64 t204_2)]⟩ 67)) = .ok (.slice t206_a t206_l t206_c) w__16 ∧
                          S4_k9 r s_ h to from_ told_a told_l told_c t206_a t206_l t206_c comes_c0 comes_c1 back_c0 back_c1 back_c2 t62_a t62_l t62_c t63 t64 w__16 R B1
                        ) (
                          S4_k9 r s_ h to from_ told_a told_l told_c done_a done_l done_c comes_c0 comes_c1 back_c0 back_c1 back_c2 t62_a t62_l t62_c t63 t64 w__15 R B1
                        )
                  ) (
                    ∃ (t75 : Option Addr),
                    w.cell? r = some (.pointer t75) ∧
                    Calls Try.prog 36 ⟨[(.pointer t75)]⟩ w fun e w__17 =>
                      ∃ (t76_0_a : Option Addr) (t76_0_l : Nat) (t76_0_c : Nat) (t76_1 : Bool),
                      e = .returned (.tuple ⟨[(.slice t76_0_a t76_0_l t76_0_c), (.bool t76_1)]⟩) ∧
                      cond t76_1 (
                        ∃ (t80 : Option Addr),
                        w__17.cell? from_ = some (.pointer t80) ∧
                        Calls Try.prog 22 ⟨[(.pointer t80), (.slice t76_0_a t76_0_l t76_0_c)]⟩ w__17 fun e w__18 =>
                          ∃ (t82 : Int),
                          e = .returned (.int .i64 t82) ∧
                          S4_k9 r s_ h to from_ told_a told_l told_c done_a done_l done_c comes_c0 comes_c1 back_c0 back_c1 back_c2 t62_a t62_l t62_c t63 t64 w__18 R B1
                      ) (
                        S4_k9 r s_ h to from_ told_a told_l told_c done_a done_l done_c comes_c0 comes_c1 back_c0 back_c1 back_c2 t62_a t62_l t62_c t63 t64 w__17 R B1
                      )
                  )
                )
              )
            )
          )
        )
      )
    )
  )

def S4_k3 (r : Addr) (s_ : Addr) (h : Addr) (to : Addr) (from_ : Addr) (told_a : Option Addr) (told_l : Nat) (told_c : Nat) (done_a : Option Addr) (done_l : Nat) (done_c : Nat) (comes_c0 : Addr) (comes_c1 : Addr) (back_c0 : Addr) (back_c1 : Addr) (back_c2 : Addr) (t62_a : Option Addr) (t62_l : Nat) (t62_c : Nat) (t63 : Int) (t64 : Int) (w : World) (R : Value → World → Prop) (B1 : (Option Addr × Nat × Nat) × (Option Addr × Nat × Nat) × (Int) × Unit → World → Prop) : Prop :=
  ∃ (t67 : Addr),
  t62_a = some t67 ∧
  0 ≤ (t64 : Int) ∧
  (t64 : Int) < ((t62_l : Nat) : Int) ∧
  ∃ (t68_0 : Int),
  w.cell? (t67.add (Int.toNat t64 * 5)) = some (.int .u8 t68_0) ∧
  ∃ (t68_1 : Int),
  w.cell? ((t67.add (Int.toNat t64 * 5)).add 1) = some (.int .u8 t68_1) ∧
  ∃ (t68_2 : Int),
  w.cell? ((t67.add (Int.toNat t64 * 5)).add 2) = some (.int .i64 t68_2) ∧
  ∃ (t68_3 : Int),
  w.cell? ((t67.add (Int.toNat t64 * 5)).add 3) = some (.int .i64 t68_3) ∧
  ∃ (t68_4 : Int),
  w.cell? ((t67.add (Int.toNat t64 * 5)).add 4) = some (.int .i64 t68_4) ∧
  (∃ u, (w.alloc (.cells ⟨[(.int .u8 0), (.int .u8 0), (.int .i64 0), (.int .i64 0), (.int .i64 0)]⟩ 69)).cell? ⟨w.heap.size, 0, none⟩ = some u) ∧
  (w.alloc (.cells ⟨[(.int .u8 0), (.int .u8 0), (.int .i64 0), (.int .i64 0), (.int .i64 0)]⟩ 69)).frozen? ⟨w.heap.size, 0, none⟩ = false ∧
  (∃ u, ((w.alloc (.cells ⟨[(.int .u8 0), (.int .u8 0), (.int .i64 0), (.int .i64 0), (.int .i64 0)]⟩ 69)).setCell ⟨w.heap.size, 0, none⟩ (.int .u8 t68_0)).cell? ⟨w.heap.size, 1, none⟩ = some u) ∧
  ((w.alloc (.cells ⟨[(.int .u8 0), (.int .u8 0), (.int .i64 0), (.int .i64 0), (.int .i64 0)]⟩ 69)).setCell ⟨w.heap.size, 0, none⟩ (.int .u8 t68_0)).frozen? ⟨w.heap.size, 1, none⟩ = false ∧
  (∃ u, (((w.alloc (.cells ⟨[(.int .u8 0), (.int .u8 0), (.int .i64 0), (.int .i64 0), (.int .i64 0)]⟩ 69)).setCell ⟨w.heap.size, 0, none⟩ (.int .u8 t68_0)).setCell ⟨w.heap.size, 1, none⟩ (.int .u8 t68_1)).cell? ⟨w.heap.size, 2, none⟩ = some u) ∧
  (((w.alloc (.cells ⟨[(.int .u8 0), (.int .u8 0), (.int .i64 0), (.int .i64 0), (.int .i64 0)]⟩ 69)).setCell ⟨w.heap.size, 0, none⟩ (.int .u8 t68_0)).setCell ⟨w.heap.size, 1, none⟩ (.int .u8 t68_1)).frozen? ⟨w.heap.size, 2, none⟩ = false ∧
  (∃ u, ((((w.alloc (.cells ⟨[(.int .u8 0), (.int .u8 0), (.int .i64 0), (.int .i64 0), (.int .i64 0)]⟩ 69)).setCell ⟨w.heap.size, 0, none⟩ (.int .u8 t68_0)).setCell ⟨w.heap.size, 1, none⟩ (.int .u8 t68_1)).setCell ⟨w.heap.size, 2, none⟩ (.int .i64 t68_2)).cell? ⟨w.heap.size, 3, none⟩ = some u) ∧
  ((((w.alloc (.cells ⟨[(.int .u8 0), (.int .u8 0), (.int .i64 0), (.int .i64 0), (.int .i64 0)]⟩ 69)).setCell ⟨w.heap.size, 0, none⟩ (.int .u8 t68_0)).setCell ⟨w.heap.size, 1, none⟩ (.int .u8 t68_1)).setCell ⟨w.heap.size, 2, none⟩ (.int .i64 t68_2)).frozen? ⟨w.heap.size, 3, none⟩ = false ∧
  (∃ u, (((((w.alloc (.cells ⟨[(.int .u8 0), (.int .u8 0), (.int .i64 0), (.int .i64 0), (.int .i64 0)]⟩ 69)).setCell ⟨w.heap.size, 0, none⟩ (.int .u8 t68_0)).setCell ⟨w.heap.size, 1, none⟩ (.int .u8 t68_1)).setCell ⟨w.heap.size, 2, none⟩ (.int .i64 t68_2)).setCell ⟨w.heap.size, 3, none⟩ (.int .i64 t68_3)).cell? ⟨w.heap.size, 4, none⟩ = some u) ∧
  (((((w.alloc (.cells ⟨[(.int .u8 0), (.int .u8 0), (.int .i64 0), (.int .i64 0), (.int .i64 0)]⟩ 69)).setCell ⟨w.heap.size, 0, none⟩ (.int .u8 t68_0)).setCell ⟨w.heap.size, 1, none⟩ (.int .u8 t68_1)).setCell ⟨w.heap.size, 2, none⟩ (.int .i64 t68_2)).setCell ⟨w.heap.size, 3, none⟩ (.int .i64 t68_3)).frozen? ⟨w.heap.size, 4, none⟩ = false ∧
  cond (decide ((200 : Int) ≤ t64)) (
    R (.bool true) ((((((w.alloc (.cells ⟨[(.int .u8 0), (.int .u8 0), (.int .i64 0), (.int .i64 0), (.int .i64 0)]⟩ 69)).setCell ⟨w.heap.size, 0, none⟩ (.int .u8 t68_0)).setCell ⟨w.heap.size, 1, none⟩ (.int .u8 t68_1)).setCell ⟨w.heap.size, 2, none⟩ (.int .i64 t68_2)).setCell ⟨w.heap.size, 3, none⟩ (.int .i64 t68_3)).setCell ⟨w.heap.size, 4, none⟩ (.int .i64 t68_4))
  ) (
    S4_k4 r s_ h to from_ told_a told_l told_c done_a done_l done_c comes_c0 comes_c1 back_c0 back_c1 back_c2 ⟨w.heap.size, 0, none⟩ t62_a t62_l t62_c t63 t64 ((((((w.alloc (.cells ⟨[(.int .u8 0), (.int .u8 0), (.int .i64 0), (.int .i64 0), (.int .i64 0)]⟩ 69)).setCell ⟨w.heap.size, 0, none⟩ (.int .u8 t68_0)).setCell ⟨w.heap.size, 1, none⟩ (.int .u8 t68_1)).setCell ⟨w.heap.size, 2, none⟩ (.int .i64 t68_2)).setCell ⟨w.heap.size, 3, none⟩ (.int .i64 t68_3)).setCell ⟨w.heap.size, 4, none⟩ (.int .i64 t68_4)) R B1
  )

def S4_L2 (r : Addr) (s_ : Addr) (h : Addr) (to : Addr) (from_ : Addr) (told_a : Option Addr) (told_l : Nat) (told_c : Nat) (done_a : Option Addr) (done_l : Nat) (done_c : Nat) (comes_c0 : Addr) (comes_c1 : Addr) (back_c0 : Addr) (back_c1 : Addr) (back_c2 : Addr) (t62_a : Option Addr) (t62_l : Nat) (t62_c : Nat) (t63 : Int) (t64 : Int) (w : World) (R : Value → World → Prop) (B1 : (Option Addr × Nat × Nat) × (Option Addr × Nat × Nat) × (Int) × Unit → World → Prop) : Prop :=
  cond (decide ((t64 : Int) < t63)) (
    S4_k3 r s_ h to from_ told_a told_l told_c done_a done_l done_c comes_c0 comes_c1 back_c0 back_c1 back_c2 t62_a t62_l t62_c t63 t64 w R B1
  ) (
    R (.bool true) w
  )

def S4_k1 (l_a : Option Addr) (l_l : Nat) (l_c : Nat) (r : Addr) (s_ : Addr) (h : Addr) (to : Addr) (from_ : Addr) (w : World) (R : Value → World → Prop) : Prop :=
  ∃ (I : (Option Addr × Nat × Nat) × (Option Addr × Nat × Nat) × (Int) × Unit → World → Prop) (μ : (Option Addr × Nat × Nat) × (Option Addr × Nat × Nat) × (Int) × Unit → World → Nat),
  I ((none, 0, 0), (none, 0, 0), 0, ()) w ∧
  ∀ (J : Env) (s : (Option Addr × Nat × Nat) × (Option Addr × Nat × Nat) × (Int) × Unit) (w' : World), I s w' →
    S4_L2 r s_ h to from_ s.1.1 s.1.2.1 s.1.2.2 s.2.1.1 s.2.1.2.1 s.2.1.2.2 r from_ s_ h to l_a l_l l_c ((l_l : Nat) : Int) s.2.2.1 w' R (fun s' w'' => I s' w'' ∧ μ s' w'' < μ s w')

def S4_k0 (l_a : Option Addr) (l_l : Nat) (l_c : Nat) (r : Addr) (s_ : Addr) (h : Addr) (to : Addr) (from_ : Addr) (t59 : Bool) (w : World) (R : Value → World → Prop) : Prop :=
  cond t59 (
    R (.bool false) w
  ) (
    S4_k1 l_a l_l l_c r s_ h to from_ w R
  )

def S4 (l_a : Option Addr) (l_l : Nat) (l_c : Nat) (w : World) (R : Value → World → Prop) : Prop :=
  Calls Try.prog 14 ⟨[(.int .i64 3), (.int .i64 1000)]⟩ w fun e w_ =>
    ∃ (t31_0 : Option Addr) (t31_1 : Int),
    e = .returned (.tuple ⟨[(.pointer t31_0), (.int .i64 t31_1)]⟩) ∧
    (∃ u, (w_.alloc (.cells ⟨[(.pointer none)]⟩ 46)).cell? ⟨w_.heap.size, 0, none⟩ = some u) ∧
    (w_.alloc (.cells ⟨[(.pointer none)]⟩ 46)).frozen? ⟨w_.heap.size, 0, none⟩ = false ∧
    Calls Try.prog 15 ⟨[(.int .u64 0)]⟩ ((w_.alloc (.cells ⟨[(.pointer none)]⟩ 46)).setCell ⟨w_.heap.size, 0, none⟩ (.pointer t31_0)) fun e w__1 =>
      ∃ (t34 : Option Addr),
      e = .returned (.pointer t34) ∧
      Calls Try.prog 16 ⟨[(.int .u64 0)]⟩ w__1 fun e w__2 =>
        ∃ (t35 : Option Addr),
        e = .returned (.pointer t35) ∧
        (∃ u, ((w__2.alloc (.cells ⟨[(.pointer none)]⟩ 49)).alloc (.cells ⟨[(.pointer none)]⟩ 52)).cell? ⟨w__2.heap.size, 0, none⟩ = some u) ∧
        ((w__2.alloc (.cells ⟨[(.pointer none)]⟩ 49)).alloc (.cells ⟨[(.pointer none)]⟩ 52)).frozen? ⟨w__2.heap.size, 0, none⟩ = false ∧
        (∃ u, (((w__2.alloc (.cells ⟨[(.pointer none)]⟩ 49)).alloc (.cells ⟨[(.pointer none)]⟩ 52)).setCell ⟨w__2.heap.size, 0, none⟩ (.pointer t34)).cell? ⟨(w__2.alloc (.cells ⟨[(.pointer none)]⟩ 49)).heap.size, 0, none⟩ = some u) ∧
        (((w__2.alloc (.cells ⟨[(.pointer none)]⟩ 49)).alloc (.cells ⟨[(.pointer none)]⟩ 52)).setCell ⟨w__2.heap.size, 0, none⟩ (.pointer t34)).frozen? ⟨(w__2.alloc (.cells ⟨[(.pointer none)]⟩ 49)).heap.size, 0, none⟩ = false ∧
        Calls Try.prog 17 ⟨[]⟩ ((((w__2.alloc (.cells ⟨[(.pointer none)]⟩ 49)).alloc (.cells ⟨[(.pointer none)]⟩ 52)).setCell ⟨w__2.heap.size, 0, none⟩ (.pointer t34)).setCell ⟨(w__2.alloc (.cells ⟨[(.pointer none)]⟩ 49)).heap.size, 0, none⟩ (.pointer t35)) fun e w__3 =>
          ∃ (t36 : Option Addr),
          e = .returned (.pointer t36) ∧
          Calls Try.prog 17 ⟨[]⟩ w__3 fun e w__4 =>
            ∃ (t37 : Option Addr),
            e = .returned (.pointer t37) ∧
            (∃ u, ((w__4.alloc (.cells ⟨[(.pointer none)]⟩ 54)).alloc (.cells ⟨[(.pointer none)]⟩ 54)).cell? ⟨w__4.heap.size, 0, none⟩ = some u) ∧
            ((w__4.alloc (.cells ⟨[(.pointer none)]⟩ 54)).alloc (.cells ⟨[(.pointer none)]⟩ 54)).frozen? ⟨w__4.heap.size, 0, none⟩ = false ∧
            (∃ u, (((w__4.alloc (.cells ⟨[(.pointer none)]⟩ 54)).alloc (.cells ⟨[(.pointer none)]⟩ 54)).setCell ⟨w__4.heap.size, 0, none⟩ (.pointer t36)).cell? ⟨(w__4.alloc (.cells ⟨[(.pointer none)]⟩ 54)).heap.size, 0, none⟩ = some u) ∧
            (((w__4.alloc (.cells ⟨[(.pointer none)]⟩ 54)).alloc (.cells ⟨[(.pointer none)]⟩ 54)).setCell ⟨w__4.heap.size, 0, none⟩ (.pointer t36)).frozen? ⟨(w__4.alloc (.cells ⟨[(.pointer none)]⟩ 54)).heap.size, 0, none⟩ = false ∧
            ∃ (t38 : Option Addr),
            ((((w__4.alloc (.cells ⟨[(.pointer none)]⟩ 54)).alloc (.cells ⟨[(.pointer none)]⟩ 54)).setCell ⟨w__4.heap.size, 0, none⟩ (.pointer t36)).setCell ⟨(w__4.alloc (.cells ⟨[(.pointer none)]⟩ 54)).heap.size, 0, none⟩ (.pointer t37)).cell? ⟨w_.heap.size, 0, none⟩ = some (.pointer t38) ∧
            cond (Option.isNone t38) (
              S4_k0 l_a l_l l_c ⟨w_.heap.size, 0, none⟩ ⟨w__2.heap.size, 0, none⟩ ⟨(w__2.alloc (.cells ⟨[(.pointer none)]⟩ 49)).heap.size, 0, none⟩ ⟨w__4.heap.size, 0, none⟩ ⟨(w__4.alloc (.cells ⟨[(.pointer none)]⟩ 54)).heap.size, 0, none⟩ true ((((w__4.alloc (.cells ⟨[(.pointer none)]⟩ 54)).alloc (.cells ⟨[(.pointer none)]⟩ 54)).setCell ⟨w__4.heap.size, 0, none⟩ (.pointer t36)).setCell ⟨(w__4.alloc (.cells ⟨[(.pointer none)]⟩ 54)).heap.size, 0, none⟩ (.pointer t37)) R
            ) (
              ∃ (t41 : Option Addr),
              ((((w__4.alloc (.cells ⟨[(.pointer none)]⟩ 54)).alloc (.cells ⟨[(.pointer none)]⟩ 54)).setCell ⟨w__4.heap.size, 0, none⟩ (.pointer t36)).setCell ⟨(w__4.alloc (.cells ⟨[(.pointer none)]⟩ 54)).heap.size, 0, none⟩ (.pointer t37)).cell? ⟨w__2.heap.size, 0, none⟩ = some (.pointer t41) ∧
              cond (Option.isNone t41) (
                S4_k0 l_a l_l l_c ⟨w_.heap.size, 0, none⟩ ⟨w__2.heap.size, 0, none⟩ ⟨(w__2.alloc (.cells ⟨[(.pointer none)]⟩ 49)).heap.size, 0, none⟩ ⟨w__4.heap.size, 0, none⟩ ⟨(w__4.alloc (.cells ⟨[(.pointer none)]⟩ 54)).heap.size, 0, none⟩ true ((((w__4.alloc (.cells ⟨[(.pointer none)]⟩ 54)).alloc (.cells ⟨[(.pointer none)]⟩ 54)).setCell ⟨w__4.heap.size, 0, none⟩ (.pointer t36)).setCell ⟨(w__4.alloc (.cells ⟨[(.pointer none)]⟩ 54)).heap.size, 0, none⟩ (.pointer t37)) R
              ) (
                ∃ (t45 : Option Addr),
                ((((w__4.alloc (.cells ⟨[(.pointer none)]⟩ 54)).alloc (.cells ⟨[(.pointer none)]⟩ 54)).setCell ⟨w__4.heap.size, 0, none⟩ (.pointer t36)).setCell ⟨(w__4.alloc (.cells ⟨[(.pointer none)]⟩ 54)).heap.size, 0, none⟩ (.pointer t37)).cell? ⟨(w__2.alloc (.cells ⟨[(.pointer none)]⟩ 49)).heap.size, 0, none⟩ = some (.pointer t45) ∧
                cond (Option.isNone t45) (
                  S4_k0 l_a l_l l_c ⟨w_.heap.size, 0, none⟩ ⟨w__2.heap.size, 0, none⟩ ⟨(w__2.alloc (.cells ⟨[(.pointer none)]⟩ 49)).heap.size, 0, none⟩ ⟨w__4.heap.size, 0, none⟩ ⟨(w__4.alloc (.cells ⟨[(.pointer none)]⟩ 54)).heap.size, 0, none⟩ true ((((w__4.alloc (.cells ⟨[(.pointer none)]⟩ 54)).alloc (.cells ⟨[(.pointer none)]⟩ 54)).setCell ⟨w__4.heap.size, 0, none⟩ (.pointer t36)).setCell ⟨(w__4.alloc (.cells ⟨[(.pointer none)]⟩ 54)).heap.size, 0, none⟩ (.pointer t37)) R
                ) (
                  ∃ (t49 : Option Addr),
                  ((((w__4.alloc (.cells ⟨[(.pointer none)]⟩ 54)).alloc (.cells ⟨[(.pointer none)]⟩ 54)).setCell ⟨w__4.heap.size, 0, none⟩ (.pointer t36)).setCell ⟨(w__4.alloc (.cells ⟨[(.pointer none)]⟩ 54)).heap.size, 0, none⟩ (.pointer t37)).cell? ⟨w__4.heap.size, 0, none⟩ = some (.pointer t49) ∧
                  cond (Option.isNone t49) (
                    S4_k0 l_a l_l l_c ⟨w_.heap.size, 0, none⟩ ⟨w__2.heap.size, 0, none⟩ ⟨(w__2.alloc (.cells ⟨[(.pointer none)]⟩ 49)).heap.size, 0, none⟩ ⟨w__4.heap.size, 0, none⟩ ⟨(w__4.alloc (.cells ⟨[(.pointer none)]⟩ 54)).heap.size, 0, none⟩ true ((((w__4.alloc (.cells ⟨[(.pointer none)]⟩ 54)).alloc (.cells ⟨[(.pointer none)]⟩ 54)).setCell ⟨w__4.heap.size, 0, none⟩ (.pointer t36)).setCell ⟨(w__4.alloc (.cells ⟨[(.pointer none)]⟩ 54)).heap.size, 0, none⟩ (.pointer t37)) R
                  ) (
                    ∃ (t53 : Option Addr),
                    ((((w__4.alloc (.cells ⟨[(.pointer none)]⟩ 54)).alloc (.cells ⟨[(.pointer none)]⟩ 54)).setCell ⟨w__4.heap.size, 0, none⟩ (.pointer t36)).setCell ⟨(w__4.alloc (.cells ⟨[(.pointer none)]⟩ 54)).heap.size, 0, none⟩ (.pointer t37)).cell? ⟨(w__4.alloc (.cells ⟨[(.pointer none)]⟩ 54)).heap.size, 0, none⟩ = some (.pointer t53) ∧
                    cond (Option.isNone t53) (
                      S4_k0 l_a l_l l_c ⟨w_.heap.size, 0, none⟩ ⟨w__2.heap.size, 0, none⟩ ⟨(w__2.alloc (.cells ⟨[(.pointer none)]⟩ 49)).heap.size, 0, none⟩ ⟨w__4.heap.size, 0, none⟩ ⟨(w__4.alloc (.cells ⟨[(.pointer none)]⟩ 54)).heap.size, 0, none⟩ true ((((w__4.alloc (.cells ⟨[(.pointer none)]⟩ 54)).alloc (.cells ⟨[(.pointer none)]⟩ 54)).setCell ⟨w__4.heap.size, 0, none⟩ (.pointer t36)).setCell ⟨(w__4.alloc (.cells ⟨[(.pointer none)]⟩ 54)).heap.size, 0, none⟩ (.pointer t37)) R
                    ) (
                      S4_k0 l_a l_l l_c ⟨w_.heap.size, 0, none⟩ ⟨w__2.heap.size, 0, none⟩ ⟨(w__2.alloc (.cells ⟨[(.pointer none)]⟩ 49)).heap.size, 0, none⟩ ⟨w__4.heap.size, 0, none⟩ ⟨(w__4.alloc (.cells ⟨[(.pointer none)]⟩ 54)).heap.size, 0, none⟩ (!decide ((t31_1 : Int) = 0)) ((((w__4.alloc (.cells ⟨[(.pointer none)]⟩ 54)).alloc (.cells ⟨[(.pointer none)]⟩ 54)).setCell ⟨w__4.heap.size, 0, none⟩ (.pointer t36)).setCell ⟨(w__4.alloc (.cells ⟨[(.pointer none)]⟩ 54)).heap.size, 0, none⟩ (.pointer t37)) R
                    )
                  )
                )
              )
            )

theorem S4_eq (l_a : Option Addr) (l_l : Nat) (l_c : Nat) (w : World) (R : Value → World → Prop) : Eng.R Try.prog ⟨cal, S4_nx⟩ 259 S4_ann [] (Try.f4.body.getD .skip) (bodyQ Try.prog #[.tmp 2] R) (argE [(.slice l_a l_l l_c)]) w = S4 l_a l_l l_c w R := by kernel_rfl
/-- A call of 'carfax/carfaxtop.TopTold', by its condition. -/
theorem S4_calls {l_a : Option Addr} {l_l : Nat} {l_c : Nat} {w : World} {R : Value → World → Prop} (hS : S4 l_a l_l l_c w R) : Ret Try.prog 4 [(.slice l_a l_l l_c)] w R :=
  R_calls (C := ⟨cal, S4_nx⟩) cal_ok follows Try.func4 (c := Try.f4.body.getD .skip) (res := #[.tmp 2]) (n := 259) (by kernel_rfl) (by kernel_rfl) (by kernel_rfl) (by kernel_rfl) ((S4_eq l_a l_l l_c w R).mpr hS)

def S5_ann (p : List Nat) : Option LA :=
  none

def S5_nx (t : Nat) : Option (TypeId × TypeId) := none

def S5 (w : World) (R : Value → World → Prop) : Prop :=
  R (.pointer (some ⟨w.heap.size, 0, none⟩)) (w.alloc (.cells ⟨[(.slice none 0 0), (.int .i64 0), (.bool false), (.int .i64 (-1))]⟩ 82))

theorem S5_eq (w : World) (R : Value → World → Prop) : Eng.R Try.prog ⟨cal, S5_nx⟩ 3 S5_ann [] (Try.f5.body.getD .skip) (bodyQ Try.prog #[.tmp 0] R) (argE []) w = S5  w R := by kernel_rfl
/-- A call of 'carfax/disk.New', by its condition. -/
theorem S5_calls {w : World} {R : Value → World → Prop} (hS : S5  w R) : Ret Try.prog 5 [] w R :=
  R_calls (C := ⟨cal, S5_nx⟩) cal_ok follows Try.func5 (c := Try.f5.body.getD .skip) (res := #[.tmp 0]) (n := 3) (by kernel_rfl) (by kernel_rfl) (by kernel_rfl) (by kernel_rfl) ((S5_eq  w R).mpr hS)

def S6_ann (p : List Nat) : Option LA :=
  none

def S6_nx (t : Nat) : Option (TypeId × TypeId) := none

def S6_k2 (d : Option Addr) (all_a : Option Addr) (all_l : Nat) (all_c : Nat) (w : World) (R : Value → World → Prop) : Prop :=
  R (.tuple ⟨[(.pointer (some ⟨w.heap.size, 0, none⟩)), (.slice all_a all_l all_c), (.int .i64 0)]⟩) (w.alloc (.cells ⟨[(.pointer d), (.int .i64 ((all_l : Nat) : Int))]⟩ 88))

def S6_k1 (d : Option Addr) (all_a : Option Addr) (all_l : Nat) (all_c : Nat) (w : World) (R : Value → World → Prop) : Prop :=
  Calls Try.prog 41 ⟨[(.pointer d)]⟩ w fun e w_ =>
    ∃ (t35 : Int),
    e = .returned (.int .i64 t35) ∧
    cond (!decide ((t35 : Int) = 0)) (
      R (.tuple ⟨[(.pointer none), (.slice none 0 0), (.int .i64 t35)]⟩) w_
    ) (
      S6_k2 d all_a all_l all_c w_ R
    )

def S6_k0 (d : Option Addr) (b_a : Option Addr) (b_l : Nat) (b_c : Nat) (w : World) (R : Value → World → Prop) : Prop :=
  Calls Try.prog 39 ⟨[(.slice b_a b_l b_c)]⟩ w fun e w_ =>
    ∃ (t21_0_a : Option Addr) (t21_0_l : Nat) (t21_0_c : Nat) (t21_1 : Int),
    e = .returned (.tuple ⟨[(.slice t21_0_a t21_0_l t21_0_c), (.int .i64 t21_1)]⟩) ∧
    cond (decide ((t21_1 : Int) < ((b_l : Nat) : Int))) (
      Calls Try.prog 40 ⟨[(.pointer d), (.int .i64 t21_1)]⟩ w_ fun e w__1 =>
        ∃ (t30 : Int),
        e = .returned (.int .i64 t30) ∧
        cond (!decide ((t30 : Int) = 0)) (
          R (.tuple ⟨[(.pointer none), (.slice none 0 0), (.int .i64 t30)]⟩) w__1
        ) (
          S6_k1 d t21_0_a t21_0_l t21_0_c w__1 R
        )
    ) (
      S6_k1 d t21_0_a t21_0_l t21_0_c w_ R
    )

def S6 (d : Option Addr) (w : World) (R : Value → World → Prop) : Prop :=
  Calls Try.prog 38 ⟨[(.pointer d)]⟩ w fun e w_ =>
    ∃ (t13_0_a : Option Addr) (t13_0_l : Nat) (t13_0_c : Nat) (t13_1 : Int),
    e = .returned (.tuple ⟨[(.slice t13_0_a t13_0_l t13_0_c), (.int .i64 t13_1)]⟩) ∧
    cond (!decide ((t13_1 : Int) = 0)) (
      R (.tuple ⟨[(.pointer none), (.slice none 0 0), (.int .i64 t13_1)]⟩) w_
    ) (
      S6_k0 d t13_0_a t13_0_l t13_0_c w_ R
    )

theorem S6_eq (d : Option Addr) (w : World) (R : Value → World → Prop) : Eng.R Try.prog ⟨cal, S6_nx⟩ 45 S6_ann [] (Try.f6.body.getD .skip) (bodyQ Try.prog #[.tmp 2, .tmp 3, .tmp 4] R) (argE [(.pointer d)]) w = S6 d w R := by kernel_rfl
/-- A call of 'carfax/journal.Open', by its condition. -/
theorem S6_calls {d : Option Addr} {w : World} {R : Value → World → Prop} (hS : S6 d w R) : Ret Try.prog 6 [(.pointer d)] w R :=
  R_calls (C := ⟨cal, S6_nx⟩) cal_ok follows Try.func6 (c := Try.f6.body.getD .skip) (res := #[.tmp 2, .tmp 3, .tmp 4]) (n := 45) (by kernel_rfl) (by kernel_rfl) (by kernel_rfl) (by kernel_rfl) ((S6_eq d w R).mpr hS)

def S7_ann (p : List Nat) : Option LA :=
  none

def S7_nx (t : Nat) : Option (TypeId × TypeId) := none

def S7_k0 (d : Option Addr) (after : Int) (t12 : Bool) (w : World) (R : Value → World → Prop) : Prop :=
  cond t12 (
    ∃ (t16 : Addr),
    d = some t16 ∧
    (∃ u, w.cell? (t16.add 3) = some u) ∧
    w.frozen? (t16.add 3) = false ∧
    R (.tuple ⟨[]⟩) (w.setCell (t16.add 3) (.int .i64 (if (-1) > after then (-1) else after)))
  ) (
    R (.tuple ⟨[]⟩) w
  )

def S7 (d : Option Addr) (after : Int) (w : World) (R : Value → World → Prop) : Prop :=
  cond (!(Option.isNone d)) (
    ∃ (t8 : Addr),
    d = some t8 ∧
    ∃ (t10 : Bool),
    w.cell? (t8.add 2) = some (.bool t10) ∧
    S7_k0 d after (!t10) w R
  ) (
    S7_k0 d after false w R
  )

theorem S7_eq (d : Option Addr) (after : Int) (w : World) (R : Value → World → Prop) : Eng.R Try.prog ⟨cal, S7_nx⟩ 18 S7_ann [] (Try.f7.body.getD .skip) (bodyQ Try.prog #[] R) (argE [(.pointer d), (.int .i64 after)]) w = S7 d after w R := by kernel_rfl
/-- A call of '(*carfax/disk.Disk).Cut', by its condition. -/
theorem S7_calls {d : Option Addr} {after : Int} {w : World} {R : Value → World → Prop} (hS : S7 d after w R) : Ret Try.prog 7 [(.pointer d), (.int .i64 after)] w R :=
  R_calls (C := ⟨cal, S7_nx⟩) cal_ok follows Try.func7 (c := Try.f7.body.getD .skip) (res := #[]) (n := 18) (by kernel_rfl) (by kernel_rfl) (by kernel_rfl) (by kernel_rfl) ((S7_eq d after w R).mpr hS)

def S8_ann (p : List Nat) : Option LA :=
  none

def S8_nx (t : Nat) : Option (TypeId × TypeId) := none

def S8_k3 (w_ : Addr) (w : World) (R : Value → World → Prop) : Prop :=
  ∃ (t54 : Option Addr),
  w.cell? w_ = some (.pointer t54) ∧
  Calls Try.prog 46 ⟨[(.pointer t54)]⟩ w fun e w__1 =>
    ∃ (t55_a : Option Addr) (t55_l : Nat) (t55_c : Nat),
    e = .returned (.slice t55_a t55_l t55_c) ∧
    R (.tuple ⟨[(.slice t55_a t55_l t55_c), (.int .i64 0)]⟩) w__1

def S8_k2 (r : Addr) (has : Int) (w_ : Addr) (put_f0_0 : Option Addr) (w : World) (R : Value → World → Prop) : Prop :=
  cond (!decide (((bitsI .and .i64 has 4) : Int) = 0)) (
    ∃ (t43 : Int),
    w.cell? (r.add 3) = some (.int .i64 t43) ∧
    Calls Try.prog 44 ⟨[(.agg ⟨[(.pointer put_f0_0)]⟩), (.int .i64 t43), (.int .i64 6)]⟩ w fun e w__1 =>
      e = .returned (.tuple ⟨[]⟩) ∧
      ∃ (t47 : Int),
      w__1.cell? (r.add 4) = some (.int .i64 t47) ∧
      Calls Try.prog 44 ⟨[(.agg ⟨[(.pointer put_f0_0)]⟩), (.int .i64 t47), (.int .i64 8)]⟩ w__1 fun e w__2 =>
        e = .returned (.tuple ⟨[]⟩) ∧
        ∃ (t51 : Int),
        w__2.cell? (r.add 5) = some (.int .i64 t51) ∧
        Calls Try.prog 44 ⟨[(.agg ⟨[(.pointer put_f0_0)]⟩), (.int .i64 t51), (.int .i64 3)]⟩ w__2 fun e w__3 =>
          e = .returned (.tuple ⟨[]⟩) ∧
          S8_k3 w_ w__3 R
  ) (
    S8_k3 w_ w R
  )

def S8_k1 (r : Addr) (has : Int) (w_ : Addr) (put_f0_0 : Option Addr) (w : World) (R : Value → World → Prop) : Prop :=
  cond (!decide (((bitsI .and .i64 has 2) : Int) = 0)) (
    ∃ (t36 : Int),
    w.cell? (r.add 2) = some (.int .i64 t36) ∧
    Calls Try.prog 44 ⟨[(.agg ⟨[(.pointer put_f0_0)]⟩), (.int .i64 t36), (.int .i64 3)]⟩ w fun e w__1 =>
      e = .returned (.tuple ⟨[]⟩) ∧
      S8_k2 r has w_ put_f0_0 w__1 R
  ) (
    S8_k2 r has w_ put_f0_0 w R
  )

def S8_k0 (r : Addr) (w : World) (R : Value → World → Prop) : Prop :=
  ∃ (t11 : Int),
  w.cell? r = some (.int .u8 t11) ∧
  Calls Try.prog 42 ⟨[(.int .u8 t11)]⟩ w fun e w_ =>
    ∃ (t12 : Int),
    e = .returned (.int .i64 t12) ∧
    Calls Try.prog 43 ⟨[]⟩ w_ fun e w__1 =>
      ∃ (t13 : Option Addr),
      e = .returned (.pointer t13) ∧
      (∃ u, (w__1.alloc (.cells ⟨[(.pointer none)]⟩ 93)).cell? ⟨w__1.heap.size, 0, none⟩ = some u) ∧
      (w__1.alloc (.cells ⟨[(.pointer none)]⟩ 93)).frozen? ⟨w__1.heap.size, 0, none⟩ = false ∧
      ∃ (t15_0 : Option Addr),
      ((w__1.alloc (.cells ⟨[(.pointer none)]⟩ 93)).setCell ⟨w__1.heap.size, 0, none⟩ (.pointer t13)).cell? ⟨w__1.heap.size, 0, none⟩ = some (.pointer t15_0) ∧
      ∃ (t19 : Int),
      ((w__1.alloc (.cells ⟨[(.pointer none)]⟩ 93)).setCell ⟨w__1.heap.size, 0, none⟩ (.pointer t13)).cell? r = some (.int .u8 t19) ∧
      Calls Try.prog 44 ⟨[(.agg ⟨[(.pointer t15_0)]⟩), (.int .i64 (IntKind.i64.wrap t19)), (.int .i64 3)]⟩ ((w__1.alloc (.cells ⟨[(.pointer none)]⟩ 93)).setCell ⟨w__1.heap.size, 0, none⟩ (.pointer t13)) fun e w__2 =>
        e = .returned (.tuple ⟨[]⟩) ∧
        cond (!decide (((bitsI .and .i64 t12 1) : Int) = 0)) (
          ∃ (t26 : Option Addr),
          w__2.cell? ⟨w__1.heap.size, 0, none⟩ = some (.pointer t26) ∧
          ∃ (t28 : Int),
          w__2.cell? (r.add 1) = some (.int .i64 t28) ∧
          Calls Try.prog 45 ⟨[(.pointer t26), (.int .u64 (IntKind.u64.wrap t28))]⟩ w__2 fun e w__3 =>
            ∃ (t30 : Int),
            e = .returned (.int .i64 t30) ∧
            S8_k1 r t12 ⟨w__1.heap.size, 0, none⟩ t15_0 w__3 R
        ) (
          S8_k1 r t12 ⟨w__1.heap.size, 0, none⟩ t15_0 w__2 R
        )

def S8 (r_0 : Int) (r_1 : Int) (r_2 : Int) (r_3 : Int) (r_4 : Int) (r_5 : Int) (w : World) (R : Value → World → Prop) : Prop :=
  ∃ (t7_0 : Int),
  (w.alloc (.cells ⟨[(.int .u8 r_0), (.int .i64 r_1), (.int .i64 r_2), (.int .i64 r_3), (.int .i64 r_4), (.int .i64 r_5)]⟩ 33)).cell? ⟨w.heap.size, 0, none⟩ = some (.int .u8 t7_0) ∧
  ∃ (t7_1 : Int),
  (w.alloc (.cells ⟨[(.int .u8 r_0), (.int .i64 r_1), (.int .i64 r_2), (.int .i64 r_3), (.int .i64 r_4), (.int .i64 r_5)]⟩ 33)).cell? ⟨w.heap.size, 1, none⟩ = some (.int .i64 t7_1) ∧
  ∃ (t7_2 : Int),
  (w.alloc (.cells ⟨[(.int .u8 r_0), (.int .i64 r_1), (.int .i64 r_2), (.int .i64 r_3), (.int .i64 r_4), (.int .i64 r_5)]⟩ 33)).cell? ⟨w.heap.size, 2, none⟩ = some (.int .i64 t7_2) ∧
  ∃ (t7_3 : Int),
  (w.alloc (.cells ⟨[(.int .u8 r_0), (.int .i64 r_1), (.int .i64 r_2), (.int .i64 r_3), (.int .i64 r_4), (.int .i64 r_5)]⟩ 33)).cell? ⟨w.heap.size, 3, none⟩ = some (.int .i64 t7_3) ∧
  ∃ (t7_4 : Int),
  (w.alloc (.cells ⟨[(.int .u8 r_0), (.int .i64 r_1), (.int .i64 r_2), (.int .i64 r_3), (.int .i64 r_4), (.int .i64 r_5)]⟩ 33)).cell? ⟨w.heap.size, 4, none⟩ = some (.int .i64 t7_4) ∧
  ∃ (t7_5 : Int),
  (w.alloc (.cells ⟨[(.int .u8 r_0), (.int .i64 r_1), (.int .i64 r_2), (.int .i64 r_3), (.int .i64 r_4), (.int .i64 r_5)]⟩ 33)).cell? ⟨w.heap.size, 5, none⟩ = some (.int .i64 t7_5) ∧
  Calls Try.prog 9 ⟨[(.agg ⟨[(.int .u8 t7_0), (.int .i64 t7_1), (.int .i64 t7_2), (.int .i64 t7_3), (.int .i64 t7_4), (.int .i64 t7_5)]⟩)]⟩ (w.alloc (.cells ⟨[(.int .u8 r_0), (.int .i64 r_1), (.int .i64 r_2), (.int .i64 r_3), (.int .i64 r_4), (.int .i64 r_5)]⟩ 33)) fun e w_ =>
    ∃ (t8 : Bool),
    e = .returned (.bool t8) ∧
    cond (!t8) (
      R (.tuple ⟨[(.slice none 0 0), (.int .i64 1)]⟩) w_
    ) (
      S8_k0 ⟨w.heap.size, 0, none⟩ w_ R
    )

theorem S8_eq (r_0 : Int) (r_1 : Int) (r_2 : Int) (r_3 : Int) (r_4 : Int) (r_5 : Int) (w : World) (R : Value → World → Prop) : Eng.R Try.prog ⟨cal, S8_nx⟩ 56 S8_ann [] (Try.f8.body.getD .skip) (bodyQ Try.prog #[.tmp 2, .tmp 3] R) (argE [(.agg ⟨[(.int .u8 r_0), (.int .i64 r_1), (.int .i64 r_2), (.int .i64 r_3), (.int .i64 r_4), (.int .i64 r_5)]⟩)]) w = S8 r_0 r_1 r_2 r_3 r_4 r_5 w R := by kernel_rfl
/-- A call of 'carfax/record.Lay', by its condition. -/
theorem S8_calls {r_0 : Int} {r_1 : Int} {r_2 : Int} {r_3 : Int} {r_4 : Int} {r_5 : Int} {w : World} {R : Value → World → Prop} (hS : S8 r_0 r_1 r_2 r_3 r_4 r_5 w R) : Ret Try.prog 8 [(.agg ⟨[(.int .u8 r_0), (.int .i64 r_1), (.int .i64 r_2), (.int .i64 r_3), (.int .i64 r_4), (.int .i64 r_5)]⟩)] w R :=
  R_calls (C := ⟨cal, S8_nx⟩) cal_ok follows Try.func8 (c := Try.f8.body.getD .skip) (res := #[.tmp 2, .tmp 3]) (n := 56) (by kernel_rfl) (by kernel_rfl) (by kernel_rfl) (by kernel_rfl) ((S8_eq r_0 r_1 r_2 r_3 r_4 r_5 w R).mpr hS)

def S9_ann (p : List Nat) : Option LA :=
  none

def S9_nx (t : Nat) : Option (TypeId × TypeId) := none

def S9_k2 (r : Addr) (w : World) (R : Value → World → Prop) : Prop :=
  ∃ (t50 : Int),
  w.cell? (r.add 1) = some (.int .i64 t50) ∧
  cond (decide ((0 : Int) ≤ t50)) (
    ∃ (t54 : Int),
    w.cell? (r.add 1) = some (.int .i64 t54) ∧
    cond (decide ((t54 : Int) ≤ 1073741824)) (
      ∃ (t59 : Int),
      w.cell? (r.add 2) = some (.int .i64 t59) ∧
      Calls Try.prog 47 ⟨[(.int .i64 t59), (.int .i64 3)]⟩ w fun e w_ =>
        ∃ (t60 : Bool),
        e = .returned (.bool t60) ∧
        cond t60 (
          ∃ (t64 : Int),
          w_.cell? (r.add 3) = some (.int .i64 t64) ∧
          Calls Try.prog 47 ⟨[(.int .i64 t64), (.int .i64 6)]⟩ w_ fun e w__1 =>
            ∃ (t65 : Bool),
            e = .returned (.bool t65) ∧
            cond t65 (
              ∃ (t69 : Int),
              w__1.cell? (r.add 4) = some (.int .i64 t69) ∧
              Calls Try.prog 47 ⟨[(.int .i64 t69), (.int .i64 8)]⟩ w__1 fun e w__2 =>
                ∃ (t70 : Bool),
                e = .returned (.bool t70) ∧
                cond t70 (
                  ∃ (t74 : Int),
                  w__2.cell? (r.add 5) = some (.int .i64 t74) ∧
                  cond (decide ((0 : Int) ≤ t74)) (
                    ∃ (t79 : Int),
                    w__2.cell? (r.add 5) = some (.int .i64 t79) ∧
                    R (.bool (decide ((t79 : Int) ≤ 5))) w__2
                  ) (
                    R (.bool false) w__2
                  )
                ) (
                  R (.bool false) w__2
                )
            ) (
              R (.bool false) w__1
            )
        ) (
          R (.bool false) w_
        )
    ) (
      R (.bool false) w
    )
  ) (
    R (.bool false) w
  )

def S9_k1 (r : Addr) (t30 : Bool) (w : World) (R : Value → World → Prop) : Prop :=
  cond t30 (
    R (.bool false) w
  ) (
    S9_k2 r w R
  )

def S9_k0 (r : Addr) (has : Int) (t7 : Bool) (w : World) (R : Value → World → Prop) : Prop :=
  cond t7 (
    R (.bool false) w
  ) (
    cond (decide (((bitsI .and .i64 has 4) : Int) = 0)) (
      ∃ (t36 : Int),
      w.cell? (r.add 3) = some (.int .i64 t36) ∧
      cond (!decide ((t36 : Int) = 0)) (
        S9_k1 r true w R
      ) (
        ∃ (t40 : Int),
        w.cell? (r.add 4) = some (.int .i64 t40) ∧
        cond (!decide ((t40 : Int) = 0)) (
          S9_k1 r true w R
        ) (
          ∃ (t45 : Int),
          w.cell? (r.add 5) = some (.int .i64 t45) ∧
          S9_k1 r (!decide ((t45 : Int) = 0)) w R
        )
      )
    ) (
      S9_k1 r false w R
    )
  )

def S9 (r_0 : Int) (r_1 : Int) (r_2 : Int) (r_3 : Int) (r_4 : Int) (r_5 : Int) (w : World) (R : Value → World → Prop) : Prop :=
  ∃ (t5 : Int),
  (w.alloc (.cells ⟨[(.int .u8 r_0), (.int .i64 r_1), (.int .i64 r_2), (.int .i64 r_3), (.int .i64 r_4), (.int .i64 r_5)]⟩ 33)).cell? ⟨w.heap.size, 0, none⟩ = some (.int .u8 t5) ∧
  Calls Try.prog 42 ⟨[(.int .u8 t5)]⟩ (w.alloc (.cells ⟨[(.int .u8 r_0), (.int .i64 r_1), (.int .i64 r_2), (.int .i64 r_3), (.int .i64 r_4), (.int .i64 r_5)]⟩ 33)) fun e w_ =>
    ∃ (t6 : Int),
    e = .returned (.int .i64 t6) ∧
    cond (decide ((t6 : Int) = 0)) (
      S9_k0 ⟨w.heap.size, 0, none⟩ t6 true w_ R
    ) (
      cond (decide (((bitsI .and .i64 t6 1) : Int) = 0)) (
        ∃ (t16 : Int),
        w_.cell? ⟨w.heap.size, 1, none⟩ = some (.int .i64 t16) ∧
        cond (!decide ((t16 : Int) = 0)) (
          S9_k0 ⟨w.heap.size, 0, none⟩ t6 true w_ R
        ) (
          cond (decide (((bitsI .and .i64 t6 2) : Int) = 0)) (
            ∃ (t26 : Int),
            w_.cell? ⟨w.heap.size, 2, none⟩ = some (.int .i64 t26) ∧
            S9_k0 ⟨w.heap.size, 0, none⟩ t6 (!decide ((t26 : Int) = 0)) w_ R
          ) (
            S9_k0 ⟨w.heap.size, 0, none⟩ t6 false w_ R
          )
        )
      ) (
        cond (decide (((bitsI .and .i64 t6 2) : Int) = 0)) (
          ∃ (t26_1 : Int),
          w_.cell? ⟨w.heap.size, 2, none⟩ = some (.int .i64 t26_1) ∧
          S9_k0 ⟨w.heap.size, 0, none⟩ t6 (!decide ((t26_1 : Int) = 0)) w_ R
        ) (
          S9_k0 ⟨w.heap.size, 0, none⟩ t6 false w_ R
        )
      )
    )

theorem S9_eq (r_0 : Int) (r_1 : Int) (r_2 : Int) (r_3 : Int) (r_4 : Int) (r_5 : Int) (w : World) (R : Value → World → Prop) : Eng.R Try.prog ⟨cal, S9_nx⟩ 82 S9_ann [] (Try.f9.body.getD .skip) (bodyQ Try.prog #[.tmp 2] R) (argE [(.agg ⟨[(.int .u8 r_0), (.int .i64 r_1), (.int .i64 r_2), (.int .i64 r_3), (.int .i64 r_4), (.int .i64 r_5)]⟩)]) w = S9 r_0 r_1 r_2 r_3 r_4 r_5 w R := by kernel_rfl
/-- A call of 'carfax/record.Right', by its condition. -/
theorem S9_calls {r_0 : Int} {r_1 : Int} {r_2 : Int} {r_3 : Int} {r_4 : Int} {r_5 : Int} {w : World} {R : Value → World → Prop} (hS : S9 r_0 r_1 r_2 r_3 r_4 r_5 w R) : Ret Try.prog 9 [(.agg ⟨[(.int .u8 r_0), (.int .i64 r_1), (.int .i64 r_2), (.int .i64 r_3), (.int .i64 r_4), (.int .i64 r_5)]⟩)] w R :=
  R_calls (C := ⟨cal, S9_nx⟩) cal_ok follows Try.func9 (c := Try.f9.body.getD .skip) (res := #[.tmp 2]) (n := 82) (by kernel_rfl) (by kernel_rfl) (by kernel_rfl) (by kernel_rfl) ((S9_eq r_0 r_1 r_2 r_3 r_4 r_5 w R).mpr hS)

def S10_ann (p : List Nat) : Option LA :=
  none

def S10_nx (t : Nat) : Option (TypeId × TypeId) := none

def S10_k2 (j : Option Addr) (w : World) (R : Value → World → Prop) : Prop :=
  ∃ (t28 : Addr),
  j = some t28 ∧
  ∃ (t30 : Int),
  w.cell? (t28.add 1) = some (.int .i64 t30) ∧
  ∃ (t32 : Addr),
  j = some t32 ∧
  (∃ u, w.cell? (t32.add 1) = some u) ∧
  w.frozen? (t32.add 1) = false ∧
  R (.int .i64 0) (w.setCell (t32.add 1) (.int .i64 (IntKind.i64.wrap (t30 + 1))))

def S10_k1 (j : Option Addr) (f_a : Option Addr) (f_l : Nat) (f_c : Nat) (w : World) (R : Value → World → Prop) : Prop :=
  ∃ (t19 : Addr),
  j = some t19 ∧
  ∃ (t21 : Option Addr),
  w.cell? t19 = some (.pointer t21) ∧
  Calls Try.prog 49 ⟨[(.pointer t21), (.slice f_a f_l f_c)]⟩ w fun e w_ =>
    ∃ (t23 : Int),
    e = .returned (.int .i64 t23) ∧
    cond (!decide ((t23 : Int) = 0)) (
      R (.int .i64 t23) w_
    ) (
      S10_k2 j w_ R
    )

def S10_k0 (j : Option Addr) (b_a : Option Addr) (b_l : Nat) (b_c : Nat) (w : World) (R : Value → World → Prop) : Prop :=
  Calls Try.prog 48 ⟨[(.slice b_a b_l b_c)]⟩ w fun e w_ =>
    ∃ (t12_0_a : Option Addr) (t12_0_l : Nat) (t12_0_c : Nat) (t12_1 : Int),
    e = .returned (.tuple ⟨[(.slice t12_0_a t12_0_l t12_0_c), (.int .i64 t12_1)]⟩) ∧
    cond (!decide ((t12_1 : Int) = 0)) (
      R (.int .i64 t12_1) w_
    ) (
      S10_k1 j t12_0_a t12_0_l t12_0_c w_ R
    )

def S10 (j : Option Addr) (b_a : Option Addr) (b_l : Nat) (b_c : Nat) (w : World) (R : Value → World → Prop) : Prop :=
  cond (Option.isNone j) (
    R (.int .i64 2) w
  ) (
    S10_k0 j b_a b_l b_c w R
  )

theorem S10_eq (j : Option Addr) (b_a : Option Addr) (b_l : Nat) (b_c : Nat) (w : World) (R : Value → World → Prop) : Eng.R Try.prog ⟨cal, S10_nx⟩ 34 S10_ann [] (Try.f10.body.getD .skip) (bodyQ Try.prog #[.tmp 4] R) (argE [(.pointer j), (.slice b_a b_l b_c)]) w = S10 j b_a b_l b_c w R := by kernel_rfl
/-- A call of '(*carfax/journal.Journal).Note', by its condition. -/
theorem S10_calls {j : Option Addr} {b_a : Option Addr} {b_l : Nat} {b_c : Nat} {w : World} {R : Value → World → Prop} (hS : S10 j b_a b_l b_c w R) : Ret Try.prog 10 [(.pointer j), (.slice b_a b_l b_c)] w R :=
  R_calls (C := ⟨cal, S10_nx⟩) cal_ok follows Try.func10 (c := Try.f10.body.getD .skip) (res := #[.tmp 4]) (n := 34) (by kernel_rfl) (by kernel_rfl) (by kernel_rfl) (by kernel_rfl) ((S10_eq j b_a b_l b_c w R).mpr hS)

def S11_ann (p : List Nat) : Option LA :=
  none

def S11_nx (t : Nat) : Option (TypeId × TypeId) := none

def S11_k0 (j : Option Addr) (w : World) (R : Value → World → Prop) : Prop :=
  ∃ (t6 : Addr),
  j = some t6 ∧
  ∃ (t8 : Option Addr),
  w.cell? t6 = some (.pointer t8) ∧
  Calls Try.prog 41 ⟨[(.pointer t8)]⟩ w fun e w_ =>
    ∃ (t9 : Int),
    e = .returned (.int .i64 t9) ∧
    R (.int .i64 t9) w_

def S11 (j : Option Addr) (w : World) (R : Value → World → Prop) : Prop :=
  cond (Option.isNone j) (
    R (.int .i64 2) w
  ) (
    S11_k0 j w R
  )

theorem S11_eq (j : Option Addr) (w : World) (R : Value → World → Prop) : Eng.R Try.prog ⟨cal, S11_nx⟩ 10 S11_ann [] (Try.f11.body.getD .skip) (bodyQ Try.prog #[.tmp 2] R) (argE [(.pointer j)]) w = S11 j w R := by kernel_rfl
/-- A call of '(*carfax/journal.Journal).Sync', by its condition. -/
theorem S11_calls {j : Option Addr} {w : World} {R : Value → World → Prop} (hS : S11 j w R) : Ret Try.prog 11 [(.pointer j)] w R :=
  R_calls (C := ⟨cal, S11_nx⟩) cal_ok follows Try.func11 (c := Try.f11.body.getD .skip) (res := #[.tmp 2]) (n := 10) (by kernel_rfl) (by kernel_rfl) (by kernel_rfl) (by kernel_rfl) ((S11_eq j w R).mpr hS)

def S12_ann (p : List Nat) : Option LA :=
  none

def S12_nx (t : Nat) : Option (TypeId × TypeId) := none

def S12_k2 (d : Option Addr) (w : World) (R : Value → World → Prop) : Prop :=
  ∃ (t38 : Addr),
  d = some t38 ∧
  ∃ (t40_a : Option Addr) (t40_l : Nat) (t40_c : Nat),
  w.cell? t38 = some (.slice t40_a t40_l t40_c) ∧
  ∃ (t42 : Addr),
  d = some t42 ∧
  (∃ u, w.cell? (t42.add 1) = some u) ∧
  w.frozen? (t42.add 1) = false ∧
  ∃ (t44 : Addr),
  d = some t44 ∧
  (∃ u, (w.setCell (t42.add 1) (.int .i64 ((t40_l : Nat) : Int))).cell? (t44.add 2) = some u) ∧
  (w.setCell (t42.add 1) (.int .i64 ((t40_l : Nat) : Int))).frozen? (t44.add 2) = false ∧
  ∃ (t46 : Addr),
  d = some t46 ∧
  (∃ u, ((w.setCell (t42.add 1) (.int .i64 ((t40_l : Nat) : Int))).setCell (t44.add 2) (.bool false)).cell? (t46.add 3) = some u) ∧
  ((w.setCell (t42.add 1) (.int .i64 ((t40_l : Nat) : Int))).setCell (t44.add 2) (.bool false)).frozen? (t46.add 3) = false ∧
  R (.tuple ⟨[]⟩) (((w.setCell (t42.add 1) (.int .i64 ((t40_l : Nat) : Int))).setCell (t44.add 2) (.bool false)).setCell (t46.add 3) (.int .i64 (-1)))

def S12_k1 (d : Option Addr) (n_ : Int) (w : World) (R : Value → World → Prop) : Prop :=
  ∃ (t22 : Addr),
  d = some t22 ∧
  ∃ (t26 : Addr),
  d = some t26 ∧
  ∃ (t28 : Int),
  w.drew.cell? (t26.add 1) = some (.int .i64 t28) ∧
  ∃ (t24_a : Option Addr) (t24_l : Nat) (t24_c : Nat),
  w.drew.cell? t22 = some (.slice t24_a t24_l t24_c) ∧
  0 ≤ ((IntKind.i64.wrap (t28 + n_)) : Int) ∧
  ((IntKind.i64.wrap (t28 + n_)) : Int) ≤ ((t24_c : Nat) : Int) ∧
  ∃ (t32 : Addr),
  d = some t32 ∧
  (∃ u, w.drew.cell? t32 = some u) ∧
  w.drew.frozen? t32 = false ∧
  S12_k2 d (w.drew.setCell t32 (.slice (slAddr t24_a t24_c 0 1) ((Int.toNat (IntKind.i64.wrap (t28 + n_))) - 0) (t24_c - 0))) R

def S12_k0 (d : Option Addr) (keep : Int) (w : World) (R : Value → World → Prop) : Prop :=
  ∃ (t10 : Addr),
  d = some t10 ∧
  ∃ (t15 : Addr),
  d = some t15 ∧
  ∃ (t12_a : Option Addr) (t12_l : Nat) (t12_c : Nat),
  w.drew.cell? t10 = some (.slice t12_a t12_l t12_c) ∧
  ∃ (t17 : Int),
  w.drew.cell? (t15.add 1) = some (.int .i64 t17) ∧
  S12_k1 d (if (IntKind.i64.wrap (((t12_l : Nat) : Int) - t17)) < (if 0 > keep then 0 else keep) then (IntKind.i64.wrap (((t12_l : Nat) : Int) - t17)) else (if 0 > keep then 0 else keep)) w.drew R

def S12 (d : Option Addr) (keep : Int) (w : World) (R : Value → World → Prop) : Prop :=
  cond (Option.isNone d) (
    R (.tuple ⟨[]⟩) w
  ) (
    S12_k0 d keep w R
  )

theorem S12_eq (d : Option Addr) (keep : Int) (w : World) (R : Value → World → Prop) : Eng.R Try.prog ⟨cal, S12_nx⟩ 48 S12_ann [] (Try.f12.body.getD .skip) (bodyQ Try.prog #[] R) (argE [(.pointer d), (.int .i64 keep)]) w = S12 d keep w R := by kernel_rfl
/-- A call of '(*carfax/disk.Disk).Crash', by its condition. -/
theorem S12_calls {d : Option Addr} {keep : Int} {w : World} {R : Value → World → Prop} (hS : S12 d keep w R) : Ret Try.prog 12 [(.pointer d), (.int .i64 keep)] w R :=
  R_calls (C := ⟨cal, S12_nx⟩) cal_ok follows Try.func12 (c := Try.f12.body.getD .skip) (res := #[]) (n := 48) (by kernel_rfl) (by kernel_rfl) (by kernel_rfl) (by kernel_rfl) ((S12_eq d keep w R).mpr hS)

def S13_ann (p : List Nat) : Option LA :=
  none

def S13_nx (t : Nat) : Option (TypeId × TypeId) := none

def S13_k3 (t2 : Addr) (x : Addr) (t51 : Bool) (w : World) (R : Value → World → Prop) : Prop :=
  cond t51 (
    (∃ u, w.cell? t2 = some u) ∧
    w.frozen? t2 = false ∧
    (∃ u, (w.setCell t2 (.int .u8 0)).cell? (t2.add 1) = some u) ∧
    (w.setCell t2 (.int .u8 0)).frozen? (t2.add 1) = false ∧
    (∃ u, ((w.setCell t2 (.int .u8 0)).setCell (t2.add 1) (.int .i64 0)).cell? (t2.add 2) = some u) ∧
    ((w.setCell t2 (.int .u8 0)).setCell (t2.add 1) (.int .i64 0)).frozen? (t2.add 2) = false ∧
    (∃ u, (((w.setCell t2 (.int .u8 0)).setCell (t2.add 1) (.int .i64 0)).setCell (t2.add 2) (.int .i64 0)).cell? (t2.add 3) = some u) ∧
    (((w.setCell t2 (.int .u8 0)).setCell (t2.add 1) (.int .i64 0)).setCell (t2.add 2) (.int .i64 0)).frozen? (t2.add 3) = false ∧
    (∃ u, ((((w.setCell t2 (.int .u8 0)).setCell (t2.add 1) (.int .i64 0)).setCell (t2.add 2) (.int .i64 0)).setCell (t2.add 3) (.int .i64 0)).cell? (t2.add 4) = some u) ∧
    ((((w.setCell t2 (.int .u8 0)).setCell (t2.add 1) (.int .i64 0)).setCell (t2.add 2) (.int .i64 0)).setCell (t2.add 3) (.int .i64 0)).frozen? (t2.add 4) = false ∧
    (∃ u, (((((w.setCell t2 (.int .u8 0)).setCell (t2.add 1) (.int .i64 0)).setCell (t2.add 2) (.int .i64 0)).setCell (t2.add 3) (.int .i64 0)).setCell (t2.add 4) (.int .i64 0)).cell? (t2.add 5) = some u) ∧
    (((((w.setCell t2 (.int .u8 0)).setCell (t2.add 1) (.int .i64 0)).setCell (t2.add 2) (.int .i64 0)).setCell (t2.add 3) (.int .i64 0)).setCell (t2.add 4) (.int .i64 0)).frozen? (t2.add 5) = false ∧
    ∃ (t2_0 : Int),
    ((((((w.setCell t2 (.int .u8 0)).setCell (t2.add 1) (.int .i64 0)).setCell (t2.add 2) (.int .i64 0)).setCell (t2.add 3) (.int .i64 0)).setCell (t2.add 4) (.int .i64 0)).setCell (t2.add 5) (.int .i64 0)).cell? t2 = some (.int .u8 t2_0) ∧
    ∃ (t2_1 : Int),
    ((((((w.setCell t2 (.int .u8 0)).setCell (t2.add 1) (.int .i64 0)).setCell (t2.add 2) (.int .i64 0)).setCell (t2.add 3) (.int .i64 0)).setCell (t2.add 4) (.int .i64 0)).setCell (t2.add 5) (.int .i64 0)).cell? (t2.add 1) = some (.int .i64 t2_1) ∧
    ∃ (t2_2 : Int),
    ((((((w.setCell t2 (.int .u8 0)).setCell (t2.add 1) (.int .i64 0)).setCell (t2.add 2) (.int .i64 0)).setCell (t2.add 3) (.int .i64 0)).setCell (t2.add 4) (.int .i64 0)).setCell (t2.add 5) (.int .i64 0)).cell? (t2.add 2) = some (.int .i64 t2_2) ∧
    ∃ (t2_3 : Int),
    ((((((w.setCell t2 (.int .u8 0)).setCell (t2.add 1) (.int .i64 0)).setCell (t2.add 2) (.int .i64 0)).setCell (t2.add 3) (.int .i64 0)).setCell (t2.add 4) (.int .i64 0)).setCell (t2.add 5) (.int .i64 0)).cell? (t2.add 3) = some (.int .i64 t2_3) ∧
    ∃ (t2_4 : Int),
    ((((((w.setCell t2 (.int .u8 0)).setCell (t2.add 1) (.int .i64 0)).setCell (t2.add 2) (.int .i64 0)).setCell (t2.add 3) (.int .i64 0)).setCell (t2.add 4) (.int .i64 0)).setCell (t2.add 5) (.int .i64 0)).cell? (t2.add 4) = some (.int .i64 t2_4) ∧
    ∃ (t2_5 : Int),
    ((((((w.setCell t2 (.int .u8 0)).setCell (t2.add 1) (.int .i64 0)).setCell (t2.add 2) (.int .i64 0)).setCell (t2.add 3) (.int .i64 0)).setCell (t2.add 4) (.int .i64 0)).setCell (t2.add 5) (.int .i64 0)).cell? (t2.add 5) = some (.int .i64 t2_5) ∧
    R (.tuple ⟨[(.agg ⟨[(.int .u8 t2_0), (.int .i64 t2_1), (.int .i64 t2_2), (.int .i64 t2_3), (.int .i64 t2_4), (.int .i64 t2_5)]⟩), (.int .i64 170)]⟩) ((((((w.setCell t2 (.int .u8 0)).setCell (t2.add 1) (.int .i64 0)).setCell (t2.add 2) (.int .i64 0)).setCell (t2.add 3) (.int .i64 0)).setCell (t2.add 4) (.int .i64 0)).setCell (t2.add 5) (.int .i64 0))
  ) (
    ∃ (t53_0 : Int),
    w.cell? x = some (.int .u8 t53_0) ∧
    ∃ (t53_1 : Int),
    w.cell? (x.add 1) = some (.int .i64 t53_1) ∧
    ∃ (t53_2 : Int),
    w.cell? (x.add 2) = some (.int .i64 t53_2) ∧
    ∃ (t53_3 : Int),
    w.cell? (x.add 3) = some (.int .i64 t53_3) ∧
    ∃ (t53_4 : Int),
    w.cell? (x.add 4) = some (.int .i64 t53_4) ∧
    ∃ (t53_5 : Int),
    w.cell? (x.add 5) = some (.int .i64 t53_5) ∧
    (∃ u, w.cell? t2 = some u) ∧
    w.frozen? t2 = false ∧
    (∃ u, (w.setCell t2 (.int .u8 t53_0)).cell? (t2.add 1) = some u) ∧
    (w.setCell t2 (.int .u8 t53_0)).frozen? (t2.add 1) = false ∧
    (∃ u, ((w.setCell t2 (.int .u8 t53_0)).setCell (t2.add 1) (.int .i64 t53_1)).cell? (t2.add 2) = some u) ∧
    ((w.setCell t2 (.int .u8 t53_0)).setCell (t2.add 1) (.int .i64 t53_1)).frozen? (t2.add 2) = false ∧
    (∃ u, (((w.setCell t2 (.int .u8 t53_0)).setCell (t2.add 1) (.int .i64 t53_1)).setCell (t2.add 2) (.int .i64 t53_2)).cell? (t2.add 3) = some u) ∧
    (((w.setCell t2 (.int .u8 t53_0)).setCell (t2.add 1) (.int .i64 t53_1)).setCell (t2.add 2) (.int .i64 t53_2)).frozen? (t2.add 3) = false ∧
    (∃ u, ((((w.setCell t2 (.int .u8 t53_0)).setCell (t2.add 1) (.int .i64 t53_1)).setCell (t2.add 2) (.int .i64 t53_2)).setCell (t2.add 3) (.int .i64 t53_3)).cell? (t2.add 4) = some u) ∧
    ((((w.setCell t2 (.int .u8 t53_0)).setCell (t2.add 1) (.int .i64 t53_1)).setCell (t2.add 2) (.int .i64 t53_2)).setCell (t2.add 3) (.int .i64 t53_3)).frozen? (t2.add 4) = false ∧
    (∃ u, (((((w.setCell t2 (.int .u8 t53_0)).setCell (t2.add 1) (.int .i64 t53_1)).setCell (t2.add 2) (.int .i64 t53_2)).setCell (t2.add 3) (.int .i64 t53_3)).setCell (t2.add 4) (.int .i64 t53_4)).cell? (t2.add 5) = some u) ∧
    (((((w.setCell t2 (.int .u8 t53_0)).setCell (t2.add 1) (.int .i64 t53_1)).setCell (t2.add 2) (.int .i64 t53_2)).setCell (t2.add 3) (.int .i64 t53_3)).setCell (t2.add 4) (.int .i64 t53_4)).frozen? (t2.add 5) = false ∧
    ∃ (t2_0_1 : Int),
    ((((((w.setCell t2 (.int .u8 t53_0)).setCell (t2.add 1) (.int .i64 t53_1)).setCell (t2.add 2) (.int .i64 t53_2)).setCell (t2.add 3) (.int .i64 t53_3)).setCell (t2.add 4) (.int .i64 t53_4)).setCell (t2.add 5) (.int .i64 t53_5)).cell? t2 = some (.int .u8 t2_0_1) ∧
    ∃ (t2_1_1 : Int),
    ((((((w.setCell t2 (.int .u8 t53_0)).setCell (t2.add 1) (.int .i64 t53_1)).setCell (t2.add 2) (.int .i64 t53_2)).setCell (t2.add 3) (.int .i64 t53_3)).setCell (t2.add 4) (.int .i64 t53_4)).setCell (t2.add 5) (.int .i64 t53_5)).cell? (t2.add 1) = some (.int .i64 t2_1_1) ∧
    ∃ (t2_2_1 : Int),
    ((((((w.setCell t2 (.int .u8 t53_0)).setCell (t2.add 1) (.int .i64 t53_1)).setCell (t2.add 2) (.int .i64 t53_2)).setCell (t2.add 3) (.int .i64 t53_3)).setCell (t2.add 4) (.int .i64 t53_4)).setCell (t2.add 5) (.int .i64 t53_5)).cell? (t2.add 2) = some (.int .i64 t2_2_1) ∧
    ∃ (t2_3_1 : Int),
    ((((((w.setCell t2 (.int .u8 t53_0)).setCell (t2.add 1) (.int .i64 t53_1)).setCell (t2.add 2) (.int .i64 t53_2)).setCell (t2.add 3) (.int .i64 t53_3)).setCell (t2.add 4) (.int .i64 t53_4)).setCell (t2.add 5) (.int .i64 t53_5)).cell? (t2.add 3) = some (.int .i64 t2_3_1) ∧
    ∃ (t2_4_1 : Int),
    ((((((w.setCell t2 (.int .u8 t53_0)).setCell (t2.add 1) (.int .i64 t53_1)).setCell (t2.add 2) (.int .i64 t53_2)).setCell (t2.add 3) (.int .i64 t53_3)).setCell (t2.add 4) (.int .i64 t53_4)).setCell (t2.add 5) (.int .i64 t53_5)).cell? (t2.add 4) = some (.int .i64 t2_4_1) ∧
    ∃ (t2_5_1 : Int),
    ((((((w.setCell t2 (.int .u8 t53_0)).setCell (t2.add 1) (.int .i64 t53_1)).setCell (t2.add 2) (.int .i64 t53_2)).setCell (t2.add 3) (.int .i64 t53_3)).setCell (t2.add 4) (.int .i64 t53_4)).setCell (t2.add 5) (.int .i64 t53_5)).cell? (t2.add 5) = some (.int .i64 t2_5_1) ∧
    R (.tuple ⟨[(.agg ⟨[(.int .u8 t2_0_1), (.int .i64 t2_1_1), (.int .i64 t2_2_1), (.int .i64 t2_3_1), (.int .i64 t2_4_1), (.int .i64 t2_5_1)]⟩), (.int .i64 0)]⟩) ((((((w.setCell t2 (.int .u8 t53_0)).setCell (t2.add 1) (.int .i64 t53_1)).setCell (t2.add 2) (.int .i64 t53_2)).setCell (t2.add 3) (.int .i64 t53_3)).setCell (t2.add 4) (.int .i64 t53_4)).setCell (t2.add 5) (.int .i64 t53_5))
  )

def S13_k2 (t2 : Addr) (r : Addr) (x : Addr) (w : World) (R : Value → World → Prop) : Prop :=
  ∃ (t44 : Option Addr),
  w.cell? r = some (.pointer t44) ∧
  Calls Try.prog 54 ⟨[(.pointer t44)]⟩ w fun e w_ =>
    ∃ (t45 : Int),
    e = .returned (.int .i64 t45) ∧
    cond (!decide ((t45 : Int) = 0)) (
      S13_k3 t2 x true w_ R
    ) (
      ∃ (t48_0 : Int),
      w_.cell? x = some (.int .u8 t48_0) ∧
      ∃ (t48_1 : Int),
      w_.cell? (x.add 1) = some (.int .i64 t48_1) ∧
      ∃ (t48_2 : Int),
      w_.cell? (x.add 2) = some (.int .i64 t48_2) ∧
      ∃ (t48_3 : Int),
      w_.cell? (x.add 3) = some (.int .i64 t48_3) ∧
      ∃ (t48_4 : Int),
      w_.cell? (x.add 4) = some (.int .i64 t48_4) ∧
      ∃ (t48_5 : Int),
      w_.cell? (x.add 5) = some (.int .i64 t48_5) ∧
      Calls Try.prog 9 ⟨[(.agg ⟨[(.int .u8 t48_0), (.int .i64 t48_1), (.int .i64 t48_2), (.int .i64 t48_3), (.int .i64 t48_4), (.int .i64 t48_5)]⟩)]⟩ w_ fun e w__1 =>
        ∃ (t49 : Bool),
        e = .returned (.bool t49) ∧
        S13_k3 t2 x (!t49) w__1 R
    )

def S13_k1 (t2 : Addr) (r : Addr) (get_c0 : Addr) (x : Addr) (has : Int) (w : World) (R : Value → World → Prop) : Prop :=
  cond (!decide (((bitsI .and .i64 has 4) : Int) = 0)) (
    Calls Try.prog 51 ⟨[(.int .i64 6), (.pointer (some get_c0))]⟩ w fun e w_ =>
      ∃ (t36 : Int),
      e = .returned (.int .i64 t36) ∧
      Calls Try.prog 51 ⟨[(.int .i64 8), (.pointer (some get_c0))]⟩ w_ fun e w__1 =>
        ∃ (t38 : Int),
        e = .returned (.int .i64 t38) ∧
        Calls Try.prog 51 ⟨[(.int .i64 3), (.pointer (some get_c0))]⟩ w__1 fun e w__2 =>
          ∃ (t40 : Int),
          e = .returned (.int .i64 t40) ∧
          (∃ u, w__2.cell? (x.add 3) = some u) ∧
          w__2.frozen? (x.add 3) = false ∧
          (∃ u, (w__2.setCell (x.add 3) (.int .i64 t36)).cell? (x.add 4) = some u) ∧
          (w__2.setCell (x.add 3) (.int .i64 t36)).frozen? (x.add 4) = false ∧
          (∃ u, ((w__2.setCell (x.add 3) (.int .i64 t36)).setCell (x.add 4) (.int .i64 t38)).cell? (x.add 5) = some u) ∧
          ((w__2.setCell (x.add 3) (.int .i64 t36)).setCell (x.add 4) (.int .i64 t38)).frozen? (x.add 5) = false ∧
          S13_k2 t2 r x (((w__2.setCell (x.add 3) (.int .i64 t36)).setCell (x.add 4) (.int .i64 t38)).setCell (x.add 5) (.int .i64 t40)) R
  ) (
    S13_k2 t2 r x w R
  )

def S13_k0 (t2 : Addr) (r : Addr) (get_c0 : Addr) (x : Addr) (has : Int) (w : World) (R : Value → World → Prop) : Prop :=
  cond (!decide (((bitsI .and .i64 has 2) : Int) = 0)) (
    Calls Try.prog 51 ⟨[(.int .i64 3), (.pointer (some get_c0))]⟩ w fun e w_ =>
      ∃ (t30 : Int),
      e = .returned (.int .i64 t30) ∧
      (∃ u, w_.cell? (x.add 2) = some u) ∧
      w_.frozen? (x.add 2) = false ∧
      S13_k1 t2 r get_c0 x has (w_.setCell (x.add 2) (.int .i64 t30)) R
  ) (
    S13_k1 t2 r get_c0 x has w R
  )

def S13 (b_a : Option Addr) (b_l : Nat) (b_c : Nat) (w : World) (R : Value → World → Prop) : Prop :=
  Calls Try.prog 50 ⟨[(.slice b_a b_l b_c)]⟩ (w.alloc (.cells ⟨[(.int .u8 0), (.int .i64 0), (.int .i64 0), (.int .i64 0), (.int .i64 0), (.int .i64 0)]⟩ 33)) fun e w_ =>
    ∃ (t9 : Option Addr),
    e = .returned (.pointer t9) ∧
    (∃ u, (w_.alloc (.cells ⟨[(.pointer none)]⟩ 99)).cell? ⟨w_.heap.size, 0, none⟩ = some u) ∧
    (w_.alloc (.cells ⟨[(.pointer none)]⟩ 99)).frozen? ⟨w_.heap.size, 0, none⟩ = false ∧
    Calls Try.prog 51 ⟨[(.int .i64 3), (.pointer (some ⟨w_.heap.size, 0, none⟩))]⟩ ((w_.alloc (.cells ⟨[(.pointer none)]⟩ 99)).setCell ⟨w_.heap.size, 0, none⟩ (.pointer t9)) fun e w__1 =>
      ∃ (t12 : Int),
      e = .returned (.int .i64 t12) ∧
      (∃ u, (w__1.alloc (.cells ⟨[(.int .u8 0), (.int .i64 0), (.int .i64 0), (.int .i64 0), (.int .i64 0), (.int .i64 0)]⟩ 33)).cell? ⟨w__1.heap.size, 0, none⟩ = some u) ∧
      (w__1.alloc (.cells ⟨[(.int .u8 0), (.int .i64 0), (.int .i64 0), (.int .i64 0), (.int .i64 0), (.int .i64 0)]⟩ 33)).frozen? ⟨w__1.heap.size, 0, none⟩ = false ∧
      (∃ u, ((w__1.alloc (.cells ⟨[(.int .u8 0), (.int .i64 0), (.int .i64 0), (.int .i64 0), (.int .i64 0), (.int .i64 0)]⟩ 33)).setCell ⟨w__1.heap.size, 0, none⟩ (.int .u8 (IntKind.u8.wrap t12))).cell? ⟨w__1.heap.size, 1, none⟩ = some u) ∧
      ((w__1.alloc (.cells ⟨[(.int .u8 0), (.int .i64 0), (.int .i64 0), (.int .i64 0), (.int .i64 0), (.int .i64 0)]⟩ 33)).setCell ⟨w__1.heap.size, 0, none⟩ (.int .u8 (IntKind.u8.wrap t12))).frozen? ⟨w__1.heap.size, 1, none⟩ = false ∧
      (∃ u, (((w__1.alloc (.cells ⟨[(.int .u8 0), (.int .i64 0), (.int .i64 0), (.int .i64 0), (.int .i64 0), (.int .i64 0)]⟩ 33)).setCell ⟨w__1.heap.size, 0, none⟩ (.int .u8 (IntKind.u8.wrap t12))).setCell ⟨w__1.heap.size, 1, none⟩ (.int .i64 0)).cell? ⟨w__1.heap.size, 2, none⟩ = some u) ∧
      (((w__1.alloc (.cells ⟨[(.int .u8 0), (.int .i64 0), (.int .i64 0), (.int .i64 0), (.int .i64 0), (.int .i64 0)]⟩ 33)).setCell ⟨w__1.heap.size, 0, none⟩ (.int .u8 (IntKind.u8.wrap t12))).setCell ⟨w__1.heap.size, 1, none⟩ (.int .i64 0)).frozen? ⟨w__1.heap.size, 2, none⟩ = false ∧
      (∃ u, ((((w__1.alloc (.cells ⟨[(.int .u8 0), (.int .i64 0), (.int .i64 0), (.int .i64 0), (.int .i64 0), (.int .i64 0)]⟩ 33)).setCell ⟨w__1.heap.size, 0, none⟩ (.int .u8 (IntKind.u8.wrap t12))).setCell ⟨w__1.heap.size, 1, none⟩ (.int .i64 0)).setCell ⟨w__1.heap.size, 2, none⟩ (.int .i64 0)).cell? ⟨w__1.heap.size, 3, none⟩ = some u) ∧
      ((((w__1.alloc (.cells ⟨[(.int .u8 0), (.int .i64 0), (.int .i64 0), (.int .i64 0), (.int .i64 0), (.int .i64 0)]⟩ 33)).setCell ⟨w__1.heap.size, 0, none⟩ (.int .u8 (IntKind.u8.wrap t12))).setCell ⟨w__1.heap.size, 1, none⟩ (.int .i64 0)).setCell ⟨w__1.heap.size, 2, none⟩ (.int .i64 0)).frozen? ⟨w__1.heap.size, 3, none⟩ = false ∧
      (∃ u, (((((w__1.alloc (.cells ⟨[(.int .u8 0), (.int .i64 0), (.int .i64 0), (.int .i64 0), (.int .i64 0), (.int .i64 0)]⟩ 33)).setCell ⟨w__1.heap.size, 0, none⟩ (.int .u8 (IntKind.u8.wrap t12))).setCell ⟨w__1.heap.size, 1, none⟩ (.int .i64 0)).setCell ⟨w__1.heap.size, 2, none⟩ (.int .i64 0)).setCell ⟨w__1.heap.size, 3, none⟩ (.int .i64 0)).cell? ⟨w__1.heap.size, 4, none⟩ = some u) ∧
      (((((w__1.alloc (.cells ⟨[(.int .u8 0), (.int .i64 0), (.int .i64 0), (.int .i64 0), (.int .i64 0), (.int .i64 0)]⟩ 33)).setCell ⟨w__1.heap.size, 0, none⟩ (.int .u8 (IntKind.u8.wrap t12))).setCell ⟨w__1.heap.size, 1, none⟩ (.int .i64 0)).setCell ⟨w__1.heap.size, 2, none⟩ (.int .i64 0)).setCell ⟨w__1.heap.size, 3, none⟩ (.int .i64 0)).frozen? ⟨w__1.heap.size, 4, none⟩ = false ∧
      (∃ u, ((((((w__1.alloc (.cells ⟨[(.int .u8 0), (.int .i64 0), (.int .i64 0), (.int .i64 0), (.int .i64 0), (.int .i64 0)]⟩ 33)).setCell ⟨w__1.heap.size, 0, none⟩ (.int .u8 (IntKind.u8.wrap t12))).setCell ⟨w__1.heap.size, 1, none⟩ (.int .i64 0)).setCell ⟨w__1.heap.size, 2, none⟩ (.int .i64 0)).setCell ⟨w__1.heap.size, 3, none⟩ (.int .i64 0)).setCell ⟨w__1.heap.size, 4, none⟩ (.int .i64 0)).cell? ⟨w__1.heap.size, 5, none⟩ = some u) ∧
      ((((((w__1.alloc (.cells ⟨[(.int .u8 0), (.int .i64 0), (.int .i64 0), (.int .i64 0), (.int .i64 0), (.int .i64 0)]⟩ 33)).setCell ⟨w__1.heap.size, 0, none⟩ (.int .u8 (IntKind.u8.wrap t12))).setCell ⟨w__1.heap.size, 1, none⟩ (.int .i64 0)).setCell ⟨w__1.heap.size, 2, none⟩ (.int .i64 0)).setCell ⟨w__1.heap.size, 3, none⟩ (.int .i64 0)).setCell ⟨w__1.heap.size, 4, none⟩ (.int .i64 0)).frozen? ⟨w__1.heap.size, 5, none⟩ = false ∧
      ∃ (t16 : Int),
      (((((((w__1.alloc (.cells ⟨[(.int .u8 0), (.int .i64 0), (.int .i64 0), (.int .i64 0), (.int .i64 0), (.int .i64 0)]⟩ 33)).setCell ⟨w__1.heap.size, 0, none⟩ (.int .u8 (IntKind.u8.wrap t12))).setCell ⟨w__1.heap.size, 1, none⟩ (.int .i64 0)).setCell ⟨w__1.heap.size, 2, none⟩ (.int .i64 0)).setCell ⟨w__1.heap.size, 3, none⟩ (.int .i64 0)).setCell ⟨w__1.heap.size, 4, none⟩ (.int .i64 0)).setCell ⟨w__1.heap.size, 5, none⟩ (.int .i64 0)).cell? ⟨w__1.heap.size, 0, none⟩ = some (.int .u8 t16) ∧
      Calls Try.prog 42 ⟨[(.int .u8 t16)]⟩ (((((((w__1.alloc (.cells ⟨[(.int .u8 0), (.int .i64 0), (.int .i64 0), (.int .i64 0), (.int .i64 0), (.int .i64 0)]⟩ 33)).setCell ⟨w__1.heap.size, 0, none⟩ (.int .u8 (IntKind.u8.wrap t12))).setCell ⟨w__1.heap.size, 1, none⟩ (.int .i64 0)).setCell ⟨w__1.heap.size, 2, none⟩ (.int .i64 0)).setCell ⟨w__1.heap.size, 3, none⟩ (.int .i64 0)).setCell ⟨w__1.heap.size, 4, none⟩ (.int .i64 0)).setCell ⟨w__1.heap.size, 5, none⟩ (.int .i64 0)) fun e w__2 =>
        ∃ (t17 : Int),
        e = .returned (.int .i64 t17) ∧
        cond (!decide (((bitsI .and .i64 t17 1) : Int) = 0)) (
          ∃ (t21 : Option Addr),
          w__2.cell? ⟨w_.heap.size, 0, none⟩ = some (.pointer t21) ∧
          Calls Try.prog 53 ⟨[(.pointer t21)]⟩ w__2 fun e w__3 =>
            ∃ (t22 : Int),
            e = .returned (.int .u64 t22) ∧
            (∃ u, w__3.cell? ⟨w__1.heap.size, 1, none⟩ = some u) ∧
            w__3.frozen? ⟨w__1.heap.size, 1, none⟩ = false ∧
            S13_k0 ⟨w.heap.size, 0, none⟩ ⟨w_.heap.size, 0, none⟩ ⟨w_.heap.size, 0, none⟩ ⟨w__1.heap.size, 0, none⟩ t17 (w__3.setCell ⟨w__1.heap.size, 1, none⟩ (.int .i64 (IntKind.i64.wrap (if 1073741825 < t22 then 1073741825 else t22)))) R
        ) (
          S13_k0 ⟨w.heap.size, 0, none⟩ ⟨w_.heap.size, 0, none⟩ ⟨w_.heap.size, 0, none⟩ ⟨w__1.heap.size, 0, none⟩ t17 w__2 R
        )

theorem S13_eq (b_a : Option Addr) (b_l : Nat) (b_c : Nat) (w : World) (R : Value → World → Prop) : Eng.R Try.prog ⟨cal, S13_nx⟩ 54 S13_ann [] (Try.f13.body.getD .skip) (bodyQ Try.prog #[.cell 2 33, .tmp 3] R) (argE [(.slice b_a b_l b_c)]) w = S13 b_a b_l b_c w R := by kernel_rfl
/-- A call of 'carfax/record.Take', by its condition. -/
theorem S13_calls {b_a : Option Addr} {b_l : Nat} {b_c : Nat} {w : World} {R : Value → World → Prop} (hS : S13 b_a b_l b_c w R) : Ret Try.prog 13 [(.slice b_a b_l b_c)] w R :=
  R_calls (C := ⟨cal, S13_nx⟩) cal_ok follows Try.func13 (c := Try.f13.body.getD .skip) (res := #[.cell 2 33, .tmp 3]) (n := 54) (by kernel_rfl) (by kernel_rfl) (by kernel_rfl) (by kernel_rfl) ((S13_eq b_a b_l b_c w R).mpr hS)

def S14_ann (p : List Nat) : Option LA :=
  none

def S14_nx (t : Nat) : Option (TypeId × TypeId) := none

def S14_k1 (dock : Int) (charge : Int) (w : World) (R : Value → World → Prop) : Prop :=
  Calls Try.prog 16 ⟨[(.int .u64 0)]⟩ w fun e w_ =>
    ∃ (t20 : Option Addr),
    e = .returned (.pointer t20) ∧
    Calls Try.prog 15 ⟨[(.int .u64 0)]⟩ w_ fun e w__1 =>
      ∃ (t21 : Option Addr),
      e = .returned (.pointer t21) ∧
      R (.tuple ⟨[(.pointer (some ⟨w__1.heap.size, 0, none⟩)), (.int .i64 0)]⟩) (w__1.alloc (.cells ⟨[(.int .i64 dock), (.int .i64 dock), (.int .i64 (-1)), (.int .i64 charge), (.int .i64 charge), (.pointer none), (.int .u64 0), (.pointer t20), (.pointer t21)]⟩ 105))

def S14_k0 (dock : Int) (charge : Int) (t15 : Bool) (w : World) (R : Value → World → Prop) : Prop :=
  cond t15 (
    R (.tuple ⟨[(.pointer none), (.int .i64 1)]⟩) w
  ) (
    S14_k1 dock charge w R
  )

def S14 (dock : Int) (charge : Int) (w : World) (R : Value → World → Prop) : Prop :=
  cond (decide ((dock : Int) < 0)) (
    S14_k0 dock charge true w R
  ) (
    cond (decide ((255 : Int) < dock)) (
      S14_k0 dock charge true w R
    ) (
      S14_k0 dock charge (decide ((charge : Int) < 0)) w R
    )
  )

theorem S14_eq (dock : Int) (charge : Int) (w : World) (R : Value → World → Prop) : Eng.R Try.prog ⟨cal, S14_nx⟩ 24 S14_ann [] (Try.f14.body.getD .skip) (bodyQ Try.prog #[.tmp 4, .tmp 5] R) (argE [(.int .i64 dock), (.int .i64 charge)]) w = S14 dock charge w R := by kernel_rfl
/-- A call of 'carfax/robot.New', by its condition. -/
theorem S14_calls {dock : Int} {charge : Int} {w : World} {R : Value → World → Prop} (hS : S14 dock charge w R) : Ret Try.prog 14 [(.int .i64 dock), (.int .i64 charge)] w R :=
  R_calls (C := ⟨cal, S14_nx⟩) cal_ok follows Try.func14 (c := Try.f14.body.getD .skip) (res := #[.tmp 4, .tmp 5]) (n := 24) (by kernel_rfl) (by kernel_rfl) (by kernel_rfl) (by kernel_rfl) ((S14_eq dock charge w R).mpr hS)

def S15_ann (p : List Nat) : Option LA :=
  none

def S15_nx (t : Nat) : Option (TypeId × TypeId) := none

def S15 (told : Int) (w : World) (R : Value → World → Prop) : Prop :=
  R (.pointer (some ⟨w.heap.size, 0, none⟩)) (w.alloc (.cells ⟨[(.int .u64 told), (.bool false), (.slice none 0 0)]⟩ 107))

theorem S15_eq (told : Int) (w : World) (R : Value → World → Prop) : Eng.R Try.prog ⟨cal, S15_nx⟩ 6 S15_ann [] (Try.f15.body.getD .skip) (bodyQ Try.prog #[.tmp 2] R) (argE [(.int .u64 told)]) w = S15 told w R := by kernel_rfl
/-- A call of 'carfax/link.NewSender', by its condition. -/
theorem S15_calls {told : Int} {w : World} {R : Value → World → Prop} (hS : S15 told w R) : Ret Try.prog 15 [(.int .u64 told)] w R :=
  R_calls (C := ⟨cal, S15_nx⟩) cal_ok follows Try.func15 (c := Try.f15.body.getD .skip) (res := #[.tmp 2]) (n := 6) (by kernel_rfl) (by kernel_rfl) (by kernel_rfl) (by kernel_rfl) ((S15_eq told w R).mpr hS)

def S16_ann (p : List Nat) : Option LA :=
  none

def S16_nx (t : Nat) : Option (TypeId × TypeId) := none

def S16 (heard : Int) (w : World) (R : Value → World → Prop) : Prop :=
  R (.pointer (some ⟨w.heap.size, 0, none⟩)) (w.alloc (.cells ⟨[(.int .u64 heard)]⟩ 109))

theorem S16_eq (heard : Int) (w : World) (R : Value → World → Prop) : Eng.R Try.prog ⟨cal, S16_nx⟩ 6 S16_ann [] (Try.f16.body.getD .skip) (bodyQ Try.prog #[.tmp 2] R) (argE [(.int .u64 heard)]) w = S16 heard w R := by kernel_rfl
/-- A call of 'carfax/link.NewReceiver', by its condition. -/
theorem S16_calls {heard : Int} {w : World} {R : Value → World → Prop} (hS : S16 heard w R) : Ret Try.prog 16 [(.int .u64 heard)] w R :=
  R_calls (C := ⟨cal, S16_nx⟩) cal_ok follows Try.func16 (c := Try.f16.body.getD .skip) (res := #[.tmp 2]) (n := 6) (by kernel_rfl) (by kernel_rfl) (by kernel_rfl) (by kernel_rfl) ((S16_eq heard w R).mpr hS)

def S17_ann (p : List Nat) : Option LA :=
  none

def S17_nx (t : Nat) : Option (TypeId × TypeId) := none

def S17 (w : World) (R : Value → World → Prop) : Prop :=
  R (.pointer (some ⟨w.heap.size, 0, none⟩)) (w.alloc (.cells ⟨[(.slice none 0 0)]⟩ 111))

theorem S17_eq (w : World) (R : Value → World → Prop) : Eng.R Try.prog ⟨cal, S17_nx⟩ 2 S17_ann [] (Try.f17.body.getD .skip) (bodyQ Try.prog #[.tmp 0] R) (argE []) w = S17  w R := by kernel_rfl
/-- A call of 'carfax/net.New', by its condition. -/
theorem S17_calls {w : World} {R : Value → World → Prop} (hS : S17  w R) : Ret Try.prog 17 [] w R :=
  R_calls (C := ⟨cal, S17_nx⟩) cal_ok follows Try.func17 (c := Try.f17.body.getD .skip) (res := #[.tmp 0]) (n := 2) (by kernel_rfl) (by kernel_rfl) (by kernel_rfl) (by kernel_rfl) ((S17_eq  w R).mpr hS)

def S18_ann (p : List Nat) : Option LA :=
  none

def S18_nx (t : Nat) : Option (TypeId × TypeId) := none

def S18_k1 (b_a : Option Addr) (b_l : Nat) (b_c : Nat) (t2 : Addr) (t3 : Addr) (p : Addr) (w : World) (R : Value → World → Prop) : Prop :=
  ∃ (t21 : Bool),
  w.cell? p = some (.bool t21) ∧
  cond t21 (
    ∃ (t22 : Option Addr),
    w.cell? t2 = some (.pointer t22) ∧
    Calls Try.prog 20 ⟨[(.pointer t22), (.slice b_a b_l b_c)]⟩ w fun e w_ =>
      ∃ (t24 : Bool),
      e = .returned (.bool t24) ∧
      R (.tuple ⟨[]⟩) w_
  ) (
    ∃ (t25 : Option Addr),
    w.cell? t2 = some (.pointer t25) ∧
    Calls Try.prog 21 ⟨[(.pointer t25), (.slice b_a b_l b_c)]⟩ w fun e w__1 =>
      ∃ (t27_a : Option Addr) (t27_l : Nat) (t27_c : Nat),
      e = .returned (.slice t27_a t27_l t27_c) ∧
      cond (decide ((0 : Int) < ((t27_l : Nat) : Int))) (
        ∃ (t31 : Option Addr),
        w__1.cell? t3 = some (.pointer t31) ∧
        Calls Try.prog 22 ⟨[(.pointer t31), (.slice t27_a t27_l t27_c)]⟩ w__1 fun e w__2 =>
          ∃ (t33 : Int),
          e = .returned (.int .i64 t33) ∧
          R (.tuple ⟨[]⟩) w__2
      ) (
        R (.tuple ⟨[]⟩) w__1
      )
  )

def S18_k0 (b_a : Option Addr) (b_l : Nat) (b_c : Nat) (t2 : Addr) (t3 : Addr) (p : Addr) (t19 : Bool) (w : World) (R : Value → World → Prop) : Prop :=
  cond t19 (
    R (.tuple ⟨[]⟩) w
  ) (
    S18_k1 b_a b_l b_c t2 t3 p w R
  )

def S18 (b_a : Option Addr) (b_l : Nat) (b_c : Nat) (is : Bool) (cap : Addr) (cap_1 : Addr) (w : World) (R : Value → World → Prop) : Prop :=
  Calls Try.prog 19 ⟨[(.slice b_a b_l b_c)]⟩ w fun e w_ =>
    ∃ (t11_0_0 : Bool) (t11_0_1 : Int) (t11_0_2_a : Option Addr) (t11_0_2_l : Nat) (t11_0_2_c : Nat) (t11_1 : Int),
    e = .returned (.tuple ⟨[(.agg ⟨[(.bool t11_0_0), (.int .u64 t11_0_1), (.slice t11_0_2_a t11_0_2_l t11_0_2_c)]⟩), (.int .i64 t11_1)]⟩) ∧
    (∃ u, (w_.alloc (.cells ⟨[(.bool false), (.int .u64 0), (.slice none 0 0)]⟩ 58)).cell? ⟨w_.heap.size, 0, none⟩ = some u) ∧
    (w_.alloc (.cells ⟨[(.bool false), (.int .u64 0), (.slice none 0 0)]⟩ 58)).frozen? ⟨w_.heap.size, 0, none⟩ = false ∧
    (∃ u, ((w_.alloc (.cells ⟨[(.bool false), (.int .u64 0), (.slice none 0 0)]⟩ 58)).setCell ⟨w_.heap.size, 0, none⟩ (.bool t11_0_0)).cell? ⟨w_.heap.size, 1, none⟩ = some u) ∧
    ((w_.alloc (.cells ⟨[(.bool false), (.int .u64 0), (.slice none 0 0)]⟩ 58)).setCell ⟨w_.heap.size, 0, none⟩ (.bool t11_0_0)).frozen? ⟨w_.heap.size, 1, none⟩ = false ∧
    (∃ u, (((w_.alloc (.cells ⟨[(.bool false), (.int .u64 0), (.slice none 0 0)]⟩ 58)).setCell ⟨w_.heap.size, 0, none⟩ (.bool t11_0_0)).setCell ⟨w_.heap.size, 1, none⟩ (.int .u64 t11_0_1)).cell? ⟨w_.heap.size, 2, none⟩ = some u) ∧
    (((w_.alloc (.cells ⟨[(.bool false), (.int .u64 0), (.slice none 0 0)]⟩ 58)).setCell ⟨w_.heap.size, 0, none⟩ (.bool t11_0_0)).setCell ⟨w_.heap.size, 1, none⟩ (.int .u64 t11_0_1)).frozen? ⟨w_.heap.size, 2, none⟩ = false ∧
    cond (!is) (
      S18_k0 b_a b_l b_c cap cap_1 ⟨w_.heap.size, 0, none⟩ true ((((w_.alloc (.cells ⟨[(.bool false), (.int .u64 0), (.slice none 0 0)]⟩ 58)).setCell ⟨w_.heap.size, 0, none⟩ (.bool t11_0_0)).setCell ⟨w_.heap.size, 1, none⟩ (.int .u64 t11_0_1)).setCell ⟨w_.heap.size, 2, none⟩ (.slice t11_0_2_a t11_0_2_l t11_0_2_c)) R
    ) (
      S18_k0 b_a b_l b_c cap cap_1 ⟨w_.heap.size, 0, none⟩ (!decide ((t11_1 : Int) = 0)) ((((w_.alloc (.cells ⟨[(.bool false), (.int .u64 0), (.slice none 0 0)]⟩ 58)).setCell ⟨w_.heap.size, 0, none⟩ (.bool t11_0_0)).setCell ⟨w_.heap.size, 1, none⟩ (.int .u64 t11_0_1)).setCell ⟨w_.heap.size, 2, none⟩ (.slice t11_0_2_a t11_0_2_l t11_0_2_c)) R
    )

theorem S18_eq (b_a : Option Addr) (b_l : Nat) (b_c : Nat) (is : Bool) (cap : Addr) (cap_1 : Addr) (w : World) (R : Value → World → Prop) : Eng.R Try.prog ⟨cal, S18_nx⟩ 34 S18_ann [] (Try.f18.body.getD .skip) (bodyQ Try.prog #[] R) (argE [(.slice b_a b_l b_c), (.bool is), (.pointer (some cap)), (.pointer (some cap_1))]) w = S18 b_a b_l b_c is cap cap_1 w R := by kernel_rfl
/-- A call of 'carfax/carfaxtop.TopTold$1', by its condition. -/
theorem S18_calls {b_a : Option Addr} {b_l : Nat} {b_c : Nat} {is : Bool} {cap : Addr} {cap_1 : Addr} {w : World} {R : Value → World → Prop} (hS : S18 b_a b_l b_c is cap cap_1 w R) : Ret Try.prog 18 [(.slice b_a b_l b_c), (.bool is), (.pointer (some cap)), (.pointer (some cap_1))] w R :=
  R_calls (C := ⟨cal, S18_nx⟩) cal_ok follows Try.func18 (c := Try.f18.body.getD .skip) (res := #[]) (n := 34) (by kernel_rfl) (by kernel_rfl) (by kernel_rfl) (by kernel_rfl) ((S18_eq b_a b_l b_c is cap cap_1 w R).mpr hS)

def S19_ann (p : List Nat) : Option LA := match p with
  | [0, 0, 1, 1, 1, 1, 1, 1] => some ⟨[2, 6, 7], []⟩
  | _ => none

def S19_nx (t : Nat) : Option (TypeId × TypeId) := none

def S19_k3 (t2 : Addr) (r : Option Addr) (p : Addr) (w : World) (R : Value → World → Prop) (B1 : Unit → World → Prop) : Prop :=
  (
    ∃ (t40_a : Option Addr) (t40_l : Nat) (t40_c : Nat),
    w.drew.cell? (p.add 2) = some (.slice t40_a t40_l t40_c) ∧
    Calls Try.prog 52 ⟨[(.pointer r), (.int .i64 8)]⟩ w.drew fun e w_ =>
      ∃ (t42 : Int),
      e = .returned (.int .u64 t42) ∧
      ∃ (t45_a : Option Addr) (t45_l : Nat) (t45_c : Nat) (w__1 : World),
      (Builtin.append_ #[36, 36] 36 ⟨[(.slice t40_a t40_l t40_c), (.slice (some ⟨w_.heap.size, 0, none⟩) 1 1)]⟩).run Try.prog (w_.alloc (.cells ⟨[(.int .u8 (IntKind.u8.wrap t42))]⟩ 5)) = .ok (.slice t45_a t45_l t45_c) w__1 ∧
      (∃ u, w__1.cell? (p.add 2) = some u) ∧
      w__1.frozen? (p.add 2) = false ∧
      B1 (()) (w__1.setCell (p.add 2) (.slice t45_a t45_l t45_c))
  ) ∧
  (
    Calls Try.prog 52 ⟨[(.pointer r), (.int .i64 8)]⟩ w.drew fun e w__2 =>
      ∃ (t42_1 : Int),
      e = .returned (.int .u64 t42_1) ∧
      ∃ (t40_a_1 : Option Addr) (t40_l_1 : Nat) (t40_c_1 : Nat),
      w__2.cell? (p.add 2) = some (.slice t40_a_1 t40_l_1 t40_c_1) ∧
      ∃ (t45_a_1 : Option Addr) (t45_l_1 : Nat) (t45_c_1 : Nat) (w__3 : World),
      (Builtin.append_ #[36, 36] 36 ⟨[(.slice t40_a_1 t40_l_1 t40_c_1), (.slice (some ⟨w__2.heap.size, 0, none⟩) 1 1)]⟩).run Try.prog (w__2.alloc (.cells ⟨[(.int .u8 (IntKind.u8.wrap t42_1))]⟩ 5)) = .ok (.slice t45_a_1 t45_l_1 t45_c_1) w__3 ∧
      (∃ u, w__3.cell? (p.add 2) = some u) ∧
      w__3.frozen? (p.add 2) = false ∧
      B1 (()) (w__3.setCell (p.add 2) (.slice t45_a_1 t45_l_1 t45_c_1))
  )

def S19_k5 (t2 : Addr) (p : Addr) (t60 : Bool) (w : World) (R : Value → World → Prop) : Prop :=
  cond t60 (
    (∃ u, w.cell? t2 = some u) ∧
    w.frozen? t2 = false ∧
    (∃ u, (w.setCell t2 (.bool false)).cell? (t2.add 1) = some u) ∧
    (w.setCell t2 (.bool false)).frozen? (t2.add 1) = false ∧
    (∃ u, ((w.setCell t2 (.bool false)).setCell (t2.add 1) (.int .u64 0)).cell? (t2.add 2) = some u) ∧
    ((w.setCell t2 (.bool false)).setCell (t2.add 1) (.int .u64 0)).frozen? (t2.add 2) = false ∧
    ∃ (t2_0 : Bool),
    (((w.setCell t2 (.bool false)).setCell (t2.add 1) (.int .u64 0)).setCell (t2.add 2) (.slice none 0 0)).cell? t2 = some (.bool t2_0) ∧
    ∃ (t2_1 : Int),
    (((w.setCell t2 (.bool false)).setCell (t2.add 1) (.int .u64 0)).setCell (t2.add 2) (.slice none 0 0)).cell? (t2.add 1) = some (.int .u64 t2_1) ∧
    ∃ (t2_2_a : Option Addr) (t2_2_l : Nat) (t2_2_c : Nat),
    (((w.setCell t2 (.bool false)).setCell (t2.add 1) (.int .u64 0)).setCell (t2.add 2) (.slice none 0 0)).cell? (t2.add 2) = some (.slice t2_2_a t2_2_l t2_2_c) ∧
    R (.tuple ⟨[(.agg ⟨[(.bool t2_0), (.int .u64 t2_1), (.slice t2_2_a t2_2_l t2_2_c)]⟩), (.int .i64 140)]⟩) (((w.setCell t2 (.bool false)).setCell (t2.add 1) (.int .u64 0)).setCell (t2.add 2) (.slice none 0 0))
  ) (
    ∃ (t62_0 : Bool),
    w.cell? p = some (.bool t62_0) ∧
    ∃ (t62_1 : Int),
    w.cell? (p.add 1) = some (.int .u64 t62_1) ∧
    ∃ (t62_2_a : Option Addr) (t62_2_l : Nat) (t62_2_c : Nat),
    w.cell? (p.add 2) = some (.slice t62_2_a t62_2_l t62_2_c) ∧
    (∃ u, w.cell? t2 = some u) ∧
    w.frozen? t2 = false ∧
    (∃ u, (w.setCell t2 (.bool t62_0)).cell? (t2.add 1) = some u) ∧
    (w.setCell t2 (.bool t62_0)).frozen? (t2.add 1) = false ∧
    (∃ u, ((w.setCell t2 (.bool t62_0)).setCell (t2.add 1) (.int .u64 t62_1)).cell? (t2.add 2) = some u) ∧
    ((w.setCell t2 (.bool t62_0)).setCell (t2.add 1) (.int .u64 t62_1)).frozen? (t2.add 2) = false ∧
    ∃ (t2_0_1 : Bool),
    (((w.setCell t2 (.bool t62_0)).setCell (t2.add 1) (.int .u64 t62_1)).setCell (t2.add 2) (.slice t62_2_a t62_2_l t62_2_c)).cell? t2 = some (.bool t2_0_1) ∧
    ∃ (t2_1_1 : Int),
    (((w.setCell t2 (.bool t62_0)).setCell (t2.add 1) (.int .u64 t62_1)).setCell (t2.add 2) (.slice t62_2_a t62_2_l t62_2_c)).cell? (t2.add 1) = some (.int .u64 t2_1_1) ∧
    ∃ (t2_2_a_1 : Option Addr) (t2_2_l_1 : Nat) (t2_2_c_1 : Nat),
    (((w.setCell t2 (.bool t62_0)).setCell (t2.add 1) (.int .u64 t62_1)).setCell (t2.add 2) (.slice t62_2_a t62_2_l t62_2_c)).cell? (t2.add 2) = some (.slice t2_2_a_1 t2_2_l_1 t2_2_c_1) ∧
    R (.tuple ⟨[(.agg ⟨[(.bool t2_0_1), (.int .u64 t2_1_1), (.slice t2_2_a_1 t2_2_l_1 t2_2_c_1)]⟩), (.int .i64 0)]⟩) (((w.setCell t2 (.bool t62_0)).setCell (t2.add 1) (.int .u64 t62_1)).setCell (t2.add 2) (.slice t62_2_a t62_2_l t62_2_c))
  )

def S19_k4 (t2 : Addr) (r : Option Addr) (p : Addr) (w : World) (R : Value → World → Prop) : Prop :=
  Calls Try.prog 54 ⟨[(.pointer r)]⟩ w fun e w_ =>
    ∃ (t48 : Int),
    e = .returned (.int .i64 t48) ∧
    cond (!decide ((t48 : Int) = 0)) (
      S19_k5 t2 p true w_ R
    ) (
      ∃ (t52_a : Option Addr) (t52_l : Nat) (t52_c : Nat),
      w_.cell? (p.add 2) = some (.slice t52_a t52_l t52_c) ∧
      cond (decide ((200 : Int) < ((t52_l : Nat) : Int))) (
        S19_k5 t2 p true w_ R
      ) (
        ∃ (t58 : Int),
        w_.cell? (p.add 1) = some (.int .u64 t58) ∧
        S19_k5 t2 p (decide ((t58 : Int) = 18446744073709551615)) w_ R
      )
    )

def S19_k2 (t2 : Addr) (r : Option Addr) (p : Addr) (t38 : Bool) (w : World) (R : Value → World → Prop) (B1 : Unit → World → Prop) : Prop :=
  cond t38 (
    S19_k3 t2 r p w R B1
  ) (
    S19_k4 t2 r p w R
  )

def S19_L1 (t2 : Addr) (r : Option Addr) (p : Addr) (w : World) (R : Value → World → Prop) (B1 : Unit → World → Prop) : Prop :=
  ∃ (t26 : Bool),
  w.cell? p = some (.bool t26) ∧
  cond (!t26) (
    Calls Try.prog 56 ⟨[(.pointer r)]⟩ w fun e w_ =>
      ∃ (t30 : Int),
      e = .returned (.int .i64 t30) ∧
      cond (decide ((8 : Int) ≤ t30)) (
        ∃ (t35_a : Option Addr) (t35_l : Nat) (t35_c : Nat),
        w_.cell? (p.add 2) = some (.slice t35_a t35_l t35_c) ∧
        S19_k2 t2 r p (decide ((((t35_l : Nat) : Int) : Int) ≤ 200)) w_ R B1
      ) (
        S19_k2 t2 r p false w_ R B1
      )
  ) (
    S19_k2 t2 r p false w R B1
  )

def S19_k0 (t2 : Addr) (x_a : Option Addr) (x_l : Nat) (x_c : Nat) (w : World) (R : Value → World → Prop) : Prop :=
  Calls Try.prog 50 ⟨[(.slice x_a x_l x_c)]⟩ w fun e w_ =>
    ∃ (t17 : Option Addr),
    e = .returned (.pointer t17) ∧
    Calls Try.prog 52 ⟨[(.pointer t17), (.int .i64 1)]⟩ w_ fun e w__1 =>
      ∃ (t19 : Int),
      e = .returned (.int .u64 t19) ∧
      (∃ u, (w__1.alloc (.cells ⟨[(.bool false), (.int .u64 0), (.slice none 0 0)]⟩ 58)).cell? ⟨w__1.heap.size, 0, none⟩ = some u) ∧
      (w__1.alloc (.cells ⟨[(.bool false), (.int .u64 0), (.slice none 0 0)]⟩ 58)).frozen? ⟨w__1.heap.size, 0, none⟩ = false ∧
      (∃ u, ((w__1.alloc (.cells ⟨[(.bool false), (.int .u64 0), (.slice none 0 0)]⟩ 58)).setCell ⟨w__1.heap.size, 0, none⟩ (.bool (decide ((t19 : Int) = 1)))).cell? ⟨w__1.heap.size, 1, none⟩ = some u) ∧
      ((w__1.alloc (.cells ⟨[(.bool false), (.int .u64 0), (.slice none 0 0)]⟩ 58)).setCell ⟨w__1.heap.size, 0, none⟩ (.bool (decide ((t19 : Int) = 1)))).frozen? ⟨w__1.heap.size, 1, none⟩ = false ∧
      (∃ u, (((w__1.alloc (.cells ⟨[(.bool false), (.int .u64 0), (.slice none 0 0)]⟩ 58)).setCell ⟨w__1.heap.size, 0, none⟩ (.bool (decide ((t19 : Int) = 1)))).setCell ⟨w__1.heap.size, 1, none⟩ (.int .u64 0)).cell? ⟨w__1.heap.size, 2, none⟩ = some u) ∧
      (((w__1.alloc (.cells ⟨[(.bool false), (.int .u64 0), (.slice none 0 0)]⟩ 58)).setCell ⟨w__1.heap.size, 0, none⟩ (.bool (decide ((t19 : Int) = 1)))).setCell ⟨w__1.heap.size, 1, none⟩ (.int .u64 0)).frozen? ⟨w__1.heap.size, 2, none⟩ = false ∧
      Calls Try.prog 53 ⟨[(.pointer t17)]⟩ ((((w__1.alloc (.cells ⟨[(.bool false), (.int .u64 0), (.slice none 0 0)]⟩ 58)).setCell ⟨w__1.heap.size, 0, none⟩ (.bool (decide ((t19 : Int) = 1)))).setCell ⟨w__1.heap.size, 1, none⟩ (.int .u64 0)).setCell ⟨w__1.heap.size, 2, none⟩ (.slice none 0 0)) fun e w__2 =>
        ∃ (t23 : Int),
        e = .returned (.int .u64 t23) ∧
        (∃ u, w__2.cell? ⟨w__1.heap.size, 1, none⟩ = some u) ∧
        w__2.frozen? ⟨w__1.heap.size, 1, none⟩ = false ∧
        ∃ (I : Unit → World → Prop) (μ : Unit → World → Nat),
        I (()) (w__2.setCell ⟨w__1.heap.size, 1, none⟩ (.int .u64 t23)) ∧
        ∀ (J : Env) (s : Unit) (w' : World), I s w' →
          S19_L1 t2 t17 ⟨w__1.heap.size, 0, none⟩ w' R (fun s' w'' => I s' w'' ∧ μ s' w'' < μ s w')

def S19 (b_a : Option Addr) (b_l : Nat) (b_c : Nat) (w : World) (R : Value → World → Prop) : Prop :=
  Calls Try.prog 55 ⟨[(.slice b_a b_l b_c)]⟩ (w.alloc (.cells ⟨[(.bool false), (.int .u64 0), (.slice none 0 0)]⟩ 58)) fun e w_ =>
    ∃ (t10_0_a : Option Addr) (t10_0_l : Nat) (t10_0_c : Nat) (t10_1 : Bool),
    e = .returned (.tuple ⟨[(.slice t10_0_a t10_0_l t10_0_c), (.bool t10_1)]⟩) ∧
    cond (!t10_1) (
      (∃ u, w_.cell? ⟨w.heap.size, 0, none⟩ = some u) ∧
      w_.frozen? ⟨w.heap.size, 0, none⟩ = false ∧
      (∃ u, (w_.setCell ⟨w.heap.size, 0, none⟩ (.bool false)).cell? ⟨w.heap.size, 1, none⟩ = some u) ∧
      (w_.setCell ⟨w.heap.size, 0, none⟩ (.bool false)).frozen? ⟨w.heap.size, 1, none⟩ = false ∧
      (∃ u, ((w_.setCell ⟨w.heap.size, 0, none⟩ (.bool false)).setCell ⟨w.heap.size, 1, none⟩ (.int .u64 0)).cell? ⟨w.heap.size, 2, none⟩ = some u) ∧
      ((w_.setCell ⟨w.heap.size, 0, none⟩ (.bool false)).setCell ⟨w.heap.size, 1, none⟩ (.int .u64 0)).frozen? ⟨w.heap.size, 2, none⟩ = false ∧
      ∃ (t2_0 : Bool),
      (((w_.setCell ⟨w.heap.size, 0, none⟩ (.bool false)).setCell ⟨w.heap.size, 1, none⟩ (.int .u64 0)).setCell ⟨w.heap.size, 2, none⟩ (.slice none 0 0)).cell? ⟨w.heap.size, 0, none⟩ = some (.bool t2_0) ∧
      ∃ (t2_1 : Int),
      (((w_.setCell ⟨w.heap.size, 0, none⟩ (.bool false)).setCell ⟨w.heap.size, 1, none⟩ (.int .u64 0)).setCell ⟨w.heap.size, 2, none⟩ (.slice none 0 0)).cell? ⟨w.heap.size, 1, none⟩ = some (.int .u64 t2_1) ∧
      ∃ (t2_2_a : Option Addr) (t2_2_l : Nat) (t2_2_c : Nat),
      (((w_.setCell ⟨w.heap.size, 0, none⟩ (.bool false)).setCell ⟨w.heap.size, 1, none⟩ (.int .u64 0)).setCell ⟨w.heap.size, 2, none⟩ (.slice none 0 0)).cell? ⟨w.heap.size, 2, none⟩ = some (.slice t2_2_a t2_2_l t2_2_c) ∧
      R (.tuple ⟨[(.agg ⟨[(.bool t2_0), (.int .u64 t2_1), (.slice t2_2_a t2_2_l t2_2_c)]⟩), (.int .i64 140)]⟩) (((w_.setCell ⟨w.heap.size, 0, none⟩ (.bool false)).setCell ⟨w.heap.size, 1, none⟩ (.int .u64 0)).setCell ⟨w.heap.size, 2, none⟩ (.slice none 0 0))
    ) (
      S19_k0 ⟨w.heap.size, 0, none⟩ t10_0_a t10_0_l t10_0_c w_ R
    )

theorem S19_eq (b_a : Option Addr) (b_l : Nat) (b_c : Nat) (w : World) (R : Value → World → Prop) : Eng.R Try.prog ⟨cal, S19_nx⟩ 63 S19_ann [] (Try.f19.body.getD .skip) (bodyQ Try.prog #[.cell 2 58, .tmp 3] R) (argE [(.slice b_a b_l b_c)]) w = S19 b_a b_l b_c w R := by kernel_rfl
/-- A call of 'carfax/link.Take', by its condition. -/
theorem S19_calls {b_a : Option Addr} {b_l : Nat} {b_c : Nat} {w : World} {R : Value → World → Prop} (hS : S19 b_a b_l b_c w R) : Ret Try.prog 19 [(.slice b_a b_l b_c)] w R :=
  R_calls (C := ⟨cal, S19_nx⟩) cal_ok follows Try.func19 (c := Try.f19.body.getD .skip) (res := #[.cell 2 58, .tmp 3]) (n := 63) (by kernel_rfl) (by kernel_rfl) (by kernel_rfl) (by kernel_rfl) ((S19_eq b_a b_l b_c w R).mpr hS)

def S20_ann (p : List Nat) : Option LA :=
  none

def S20_nx (t : Nat) : Option (TypeId × TypeId) := none

def S20 (r : Option Addr) (b_a : Option Addr) (b_l : Nat) (b_c : Nat) (w : World) (R : Value → World → Prop) : Prop :=
  cond (!(Option.isNone r)) (
    ∃ (t9 : Addr),
    r = some t9 ∧
    ∃ (t11 : Option Addr),
    w.cell? (t9.add 8) = some (.pointer t11) ∧
    Calls Try.prog 24 ⟨[(.pointer t11), (.slice b_a b_l b_c)]⟩ w fun e w_ =>
      ∃ (t13 : Bool),
      e = .returned (.bool t13) ∧
      R (.bool t13) w_
  ) (
    R (.bool false) w
  )

theorem S20_eq (r : Option Addr) (b_a : Option Addr) (b_l : Nat) (b_c : Nat) (w : World) (R : Value → World → Prop) : Eng.R Try.prog ⟨cal, S20_nx⟩ 15 S20_ann [] (Try.f20.body.getD .skip) (bodyQ Try.prog #[.tmp 4] R) (argE [(.pointer r), (.slice b_a b_l b_c)]) w = S20 r b_a b_l b_c w R := by kernel_rfl
/-- A call of '(*carfax/robot.Robot).Heard', by its condition. -/
theorem S20_calls {r : Option Addr} {b_a : Option Addr} {b_l : Nat} {b_c : Nat} {w : World} {R : Value → World → Prop} (hS : S20 r b_a b_l b_c w R) : Ret Try.prog 20 [(.pointer r), (.slice b_a b_l b_c)] w R :=
  R_calls (C := ⟨cal, S20_nx⟩) cal_ok follows Try.func20 (c := Try.f20.body.getD .skip) (res := #[.tmp 4]) (n := 15) (by kernel_rfl) (by kernel_rfl) (by kernel_rfl) (by kernel_rfl) ((S20_eq r b_a b_l b_c w R).mpr hS)

def S21_ann (p : List Nat) : Option LA :=
  none

def S21_nx (t : Nat) : Option (TypeId × TypeId) := none

def S21_k2 (r : Option Addr) (data_a : Option Addr) (data_l : Nat) (data_c : Nat) (back_a : Option Addr) (back_l : Nat) (back_c : Nat) (w : World) (R : Value → World → Prop) : Prop :=
  Calls Try.prog 57 ⟨[(.slice data_a data_l data_c)]⟩ w fun e w_ =>
    ∃ (t34_0_0 : Int) (t34_0_1 : Int) (t34_0_2 : Int) (t34_1 : Int),
    e = .returned (.tuple ⟨[(.agg ⟨[(.int .u8 t34_0_0), (.int .i64 t34_0_1), (.int .i64 t34_0_2)]⟩), (.int .i64 t34_1)]⟩) ∧
    (∃ u, (w_.alloc (.cells ⟨[(.int .u8 0), (.int .i64 0), (.int .i64 0)]⟩ 67)).cell? ⟨w_.heap.size, 0, none⟩ = some u) ∧
    (w_.alloc (.cells ⟨[(.int .u8 0), (.int .i64 0), (.int .i64 0)]⟩ 67)).frozen? ⟨w_.heap.size, 0, none⟩ = false ∧
    (∃ u, ((w_.alloc (.cells ⟨[(.int .u8 0), (.int .i64 0), (.int .i64 0)]⟩ 67)).setCell ⟨w_.heap.size, 0, none⟩ (.int .u8 t34_0_0)).cell? ⟨w_.heap.size, 1, none⟩ = some u) ∧
    ((w_.alloc (.cells ⟨[(.int .u8 0), (.int .i64 0), (.int .i64 0)]⟩ 67)).setCell ⟨w_.heap.size, 0, none⟩ (.int .u8 t34_0_0)).frozen? ⟨w_.heap.size, 1, none⟩ = false ∧
    (∃ u, (((w_.alloc (.cells ⟨[(.int .u8 0), (.int .i64 0), (.int .i64 0)]⟩ 67)).setCell ⟨w_.heap.size, 0, none⟩ (.int .u8 t34_0_0)).setCell ⟨w_.heap.size, 1, none⟩ (.int .i64 t34_0_1)).cell? ⟨w_.heap.size, 2, none⟩ = some u) ∧
    (((w_.alloc (.cells ⟨[(.int .u8 0), (.int .i64 0), (.int .i64 0)]⟩ 67)).setCell ⟨w_.heap.size, 0, none⟩ (.int .u8 t34_0_0)).setCell ⟨w_.heap.size, 1, none⟩ (.int .i64 t34_0_1)).frozen? ⟨w_.heap.size, 2, none⟩ = false ∧
    cond (decide ((t34_1 : Int) = 0)) (
      Calls Try.prog 58 ⟨[(.pointer r)]⟩ ((((w_.alloc (.cells ⟨[(.int .u8 0), (.int .i64 0), (.int .i64 0)]⟩ 67)).setCell ⟨w_.heap.size, 0, none⟩ (.int .u8 t34_0_0)).setCell ⟨w_.heap.size, 1, none⟩ (.int .i64 t34_0_1)).setCell ⟨w_.heap.size, 2, none⟩ (.int .i64 t34_0_2)) fun e w__1 =>
        e = .returned (.tuple ⟨[]⟩) ∧
        ∃ (t42 : Addr),
        r = some t42 ∧
        (∃ u, w__1.cell? (t42.add 5) = some u) ∧
        w__1.frozen? (t42.add 5) = false ∧
        R (.slice back_a back_l back_c) (w__1.setCell (t42.add 5) (.pointer (some ⟨w_.heap.size, 0, none⟩)))
    ) (
      R (.slice back_a back_l back_c) ((((w_.alloc (.cells ⟨[(.int .u8 0), (.int .i64 0), (.int .i64 0)]⟩ 67)).setCell ⟨w_.heap.size, 0, none⟩ (.int .u8 t34_0_0)).setCell ⟨w_.heap.size, 1, none⟩ (.int .i64 t34_0_1)).setCell ⟨w_.heap.size, 2, none⟩ (.int .i64 t34_0_2))
    )

def S21_k1 (r : Option Addr) (data_a : Option Addr) (data_l : Nat) (data_c : Nat) (back_a : Option Addr) (back_l : Nat) (back_c : Nat) (t30 : Bool) (w : World) (R : Value → World → Prop) : Prop :=
  cond t30 (
    R (.slice back_a back_l back_c) w
  ) (
    S21_k2 r data_a data_l data_c back_a back_l back_c w R
  )

def S21_k0 (r : Option Addr) (b_a : Option Addr) (b_l : Nat) (b_c : Nat) (w : World) (R : Value → World → Prop) : Prop :=
  ∃ (t14 : Addr),
  r = some t14 ∧
  ∃ (t16 : Option Addr),
  w.cell? (t14.add 7) = some (.pointer t16) ∧
  Calls Try.prog 25 ⟨[(.pointer t16), (.slice b_a b_l b_c)]⟩ w fun e w_ =>
    ∃ (t18_0_a : Option Addr) (t18_0_l : Nat) (t18_0_c : Nat) (t18_1 : Bool) (t18_2_a : Option Addr) (t18_2_l : Nat) (t18_2_c : Nat),
    e = .returned (.tuple ⟨[(.slice t18_0_a t18_0_l t18_0_c), (.bool t18_1), (.slice t18_2_a t18_2_l t18_2_c)]⟩) ∧
    cond (!t18_1) (
      S21_k1 r t18_0_a t18_0_l t18_0_c t18_2_a t18_2_l t18_2_c true w_ R
    ) (
      ∃ (t26 : Addr),
      r = some t26 ∧
      ∃ (t28 : Option Addr),
      w_.cell? (t26.add 5) = some (.pointer t28) ∧
      S21_k1 r t18_0_a t18_0_l t18_0_c t18_2_a t18_2_l t18_2_c (!(Option.isNone t28)) w_ R
    )

def S21 (r : Option Addr) (b_a : Option Addr) (b_l : Nat) (b_c : Nat) (w : World) (R : Value → World → Prop) : Prop :=
  cond (Option.isNone r) (
    R (.slice none 0 0) w
  ) (
    S21_k0 r b_a b_l b_c w R
  )

theorem S21_eq (r : Option Addr) (b_a : Option Addr) (b_l : Nat) (b_c : Nat) (w : World) (R : Value → World → Prop) : Eng.R Try.prog ⟨cal, S21_nx⟩ 45 S21_ann [] (Try.f21.body.getD .skip) (bodyQ Try.prog #[.tmp 4] R) (argE [(.pointer r), (.slice b_a b_l b_c)]) w = S21 r b_a b_l b_c w R := by kernel_rfl
/-- A call of '(*carfax/robot.Robot).Hear', by its condition. -/
theorem S21_calls {r : Option Addr} {b_a : Option Addr} {b_l : Nat} {b_c : Nat} {w : World} {R : Value → World → Prop} (hS : S21 r b_a b_l b_c w R) : Ret Try.prog 21 [(.pointer r), (.slice b_a b_l b_c)] w R :=
  R_calls (C := ⟨cal, S21_nx⟩) cal_ok follows Try.func21 (c := Try.f21.body.getD .skip) (res := #[.tmp 4]) (n := 45) (by kernel_rfl) (by kernel_rfl) (by kernel_rfl) (by kernel_rfl) ((S21_eq r b_a b_l b_c w R).mpr hS)

def S22_ann (p : List Nat) : Option LA :=
  none

def S22_nx (t : Nat) : Option (TypeId × TypeId) := none

def S22_k0 (n_ : Option Addr) (b_a : Option Addr) (b_l : Nat) (b_c : Nat) (w : World) (R : Value → World → Prop) : Prop :=
  ∃ (t17 : Addr),
  n_ = some t17 ∧
  (
    ∃ (t19_a : Option Addr) (t19_l : Nat) (t19_c : Nat),
    w.drew.cell? t17 = some (.slice t19_a t19_l t19_c) ∧
    Calls Try.prog 59 ⟨[(.slice b_a b_l b_c)]⟩ w.drew fun e w_ =>
      ∃ (t21_a : Option Addr) (t21_l : Nat) (t21_c : Nat),
      e = .returned (.slice t21_a t21_l t21_c) ∧
      ∃ (t23_a : Option Addr) (t23_l : Nat) (t23_c : Nat) (w__1 : World),
      (Builtin.append_ #[26, 26] 26 ⟨[(.slice t19_a t19_l t19_c), (.slice (some ⟨w_.heap.size, 0, none⟩) 1 1)]⟩).run Try.prog (w_.alloc (.cells ⟨[(.slice t21_a t21_l t21_c)]⟩ 36)) = .ok (.slice t23_a t23_l t23_c) w__1 ∧
      ∃ (t24 : Addr),
      n_ = some t24 ∧
      (∃ u, w__1.cell? t24 = some u) ∧
      w__1.frozen? t24 = false ∧
      R (.int .i64 0) (w__1.setCell t24 (.slice t23_a t23_l t23_c))
  ) ∧
  (
    Calls Try.prog 59 ⟨[(.slice b_a b_l b_c)]⟩ w.drew fun e w__2 =>
      ∃ (t21_a_1 : Option Addr) (t21_l_1 : Nat) (t21_c_1 : Nat),
      e = .returned (.slice t21_a_1 t21_l_1 t21_c_1) ∧
      ∃ (t19_a_1 : Option Addr) (t19_l_1 : Nat) (t19_c_1 : Nat),
      w__2.cell? t17 = some (.slice t19_a_1 t19_l_1 t19_c_1) ∧
      ∃ (t23_a_1 : Option Addr) (t23_l_1 : Nat) (t23_c_1 : Nat) (w__3 : World),
      (Builtin.append_ #[26, 26] 26 ⟨[(.slice t19_a_1 t19_l_1 t19_c_1), (.slice (some ⟨w__2.heap.size, 0, none⟩) 1 1)]⟩).run Try.prog (w__2.alloc (.cells ⟨[(.slice t21_a_1 t21_l_1 t21_c_1)]⟩ 36)) = .ok (.slice t23_a_1 t23_l_1 t23_c_1) w__3 ∧
      ∃ (t24_1 : Addr),
      n_ = some t24_1 ∧
      (∃ u, w__3.cell? t24_1 = some u) ∧
      w__3.frozen? t24_1 = false ∧
      R (.int .i64 0) (w__3.setCell t24_1 (.slice t23_a_1 t23_l_1 t23_c_1))
  )

def S22 (n_ : Option Addr) (b_a : Option Addr) (b_l : Nat) (b_c : Nat) (w : World) (R : Value → World → Prop) : Prop :=
  cond (Option.isNone n_) (
    R (.int .i64 2) w
  ) (
    ∃ (t10 : Addr),
    n_ = some t10 ∧
    ∃ (t12_a : Option Addr) (t12_l : Nat) (t12_c : Nat),
    w.cell? t10 = some (.slice t12_a t12_l t12_c) ∧
    cond (decide ((1024 : Int) ≤ ((t12_l : Nat) : Int))) (
      R (.int .i64 4) w
    ) (
      S22_k0 n_ b_a b_l b_c w R
    )
  )

theorem S22_eq (n_ : Option Addr) (b_a : Option Addr) (b_l : Nat) (b_c : Nat) (w : World) (R : Value → World → Prop) : Eng.R Try.prog ⟨cal, S22_nx⟩ 26 S22_ann [] (Try.f22.body.getD .skip) (bodyQ Try.prog #[.tmp 4] R) (argE [(.pointer n_), (.slice b_a b_l b_c)]) w = S22 n_ b_a b_l b_c w R := by kernel_rfl
/-- A call of '(*carfax/net.Net).Send', by its condition. -/
theorem S22_calls {n_ : Option Addr} {b_a : Option Addr} {b_l : Nat} {b_c : Nat} {w : World} {R : Value → World → Prop} (hS : S22 n_ b_a b_l b_c w R) : Ret Try.prog 22 [(.pointer n_), (.slice b_a b_l b_c)] w R :=
  R_calls (C := ⟨cal, S22_nx⟩) cal_ok follows Try.func22 (c := Try.f22.body.getD .skip) (res := #[.tmp 4]) (n := 26) (by kernel_rfl) (by kernel_rfl) (by kernel_rfl) (by kernel_rfl) ((S22_eq n_ b_a b_l b_c w R).mpr hS)

def S23_ann (p : List Nat) : Option LA :=
  none

def S23_nx (t : Nat) : Option (TypeId × TypeId) := none

def S23_k2 (b_a : Option Addr) (b_l : Nat) (b_c : Nat) (t3 : Addr) (t4 : Addr) (w : World) (R : Value → World → Prop) : Prop :=
  ∃ (t29 : Option Addr),
  w.cell? t3 = some (.pointer t29) ∧
  Calls Try.prog 25 ⟨[(.pointer t29), (.slice b_a b_l b_c)]⟩ w fun e w_ =>
    ∃ (t31_0_a : Option Addr) (t31_0_l : Nat) (t31_0_c : Nat) (t31_1 : Bool) (t31_2_a : Option Addr) (t31_2_l : Nat) (t31_2_c : Nat),
    e = .returned (.tuple ⟨[(.slice t31_0_a t31_0_l t31_0_c), (.bool t31_1), (.slice t31_2_a t31_2_l t31_2_c)]⟩) ∧
    cond (decide ((0 : Int) < ((t31_2_l : Nat) : Int))) (
      ∃ (t38 : Option Addr),
      w_.cell? t4 = some (.pointer t38) ∧
      Calls Try.prog 22 ⟨[(.pointer t38), (.slice t31_2_a t31_2_l t31_2_c)]⟩ w_ fun e w__1 =>
        ∃ (t40 : Int),
        e = .returned (.int .i64 t40) ∧
        R (.tuple ⟨[]⟩) w__1
    ) (
      R (.tuple ⟨[]⟩) w_
    )

def S23_k1 (b_a : Option Addr) (b_l : Nat) (b_c : Nat) (t2 : Addr) (t3 : Addr) (t4 : Addr) (p : Addr) (w : World) (R : Value → World → Prop) : Prop :=
  ∃ (t24 : Bool),
  w.cell? p = some (.bool t24) ∧
  cond t24 (
    ∃ (t25 : Option Addr),
    w.cell? t2 = some (.pointer t25) ∧
    Calls Try.prog 24 ⟨[(.pointer t25), (.slice b_a b_l b_c)]⟩ w fun e w_ =>
      ∃ (t27 : Bool),
      e = .returned (.bool t27) ∧
      R (.tuple ⟨[]⟩) w_
  ) (
    S23_k2 b_a b_l b_c t3 t4 w R
  )

def S23_k0 (b_a : Option Addr) (b_l : Nat) (b_c : Nat) (t2 : Addr) (t3 : Addr) (t4 : Addr) (p : Addr) (t22 : Bool) (w : World) (R : Value → World → Prop) : Prop :=
  cond t22 (
    R (.tuple ⟨[]⟩) w
  ) (
    S23_k1 b_a b_l b_c t2 t3 t4 p w R
  )

def S23 (b_a : Option Addr) (b_l : Nat) (b_c : Nat) (is : Bool) (cap : Addr) (cap_1 : Addr) (cap_2 : Addr) (w : World) (R : Value → World → Prop) : Prop :=
  Calls Try.prog 19 ⟨[(.slice b_a b_l b_c)]⟩ w fun e w_ =>
    ∃ (t14_0_0 : Bool) (t14_0_1 : Int) (t14_0_2_a : Option Addr) (t14_0_2_l : Nat) (t14_0_2_c : Nat) (t14_1 : Int),
    e = .returned (.tuple ⟨[(.agg ⟨[(.bool t14_0_0), (.int .u64 t14_0_1), (.slice t14_0_2_a t14_0_2_l t14_0_2_c)]⟩), (.int .i64 t14_1)]⟩) ∧
    (∃ u, (w_.alloc (.cells ⟨[(.bool false), (.int .u64 0), (.slice none 0 0)]⟩ 58)).cell? ⟨w_.heap.size, 0, none⟩ = some u) ∧
    (w_.alloc (.cells ⟨[(.bool false), (.int .u64 0), (.slice none 0 0)]⟩ 58)).frozen? ⟨w_.heap.size, 0, none⟩ = false ∧
    (∃ u, ((w_.alloc (.cells ⟨[(.bool false), (.int .u64 0), (.slice none 0 0)]⟩ 58)).setCell ⟨w_.heap.size, 0, none⟩ (.bool t14_0_0)).cell? ⟨w_.heap.size, 1, none⟩ = some u) ∧
    ((w_.alloc (.cells ⟨[(.bool false), (.int .u64 0), (.slice none 0 0)]⟩ 58)).setCell ⟨w_.heap.size, 0, none⟩ (.bool t14_0_0)).frozen? ⟨w_.heap.size, 1, none⟩ = false ∧
    (∃ u, (((w_.alloc (.cells ⟨[(.bool false), (.int .u64 0), (.slice none 0 0)]⟩ 58)).setCell ⟨w_.heap.size, 0, none⟩ (.bool t14_0_0)).setCell ⟨w_.heap.size, 1, none⟩ (.int .u64 t14_0_1)).cell? ⟨w_.heap.size, 2, none⟩ = some u) ∧
    (((w_.alloc (.cells ⟨[(.bool false), (.int .u64 0), (.slice none 0 0)]⟩ 58)).setCell ⟨w_.heap.size, 0, none⟩ (.bool t14_0_0)).setCell ⟨w_.heap.size, 1, none⟩ (.int .u64 t14_0_1)).frozen? ⟨w_.heap.size, 2, none⟩ = false ∧
    cond (!is) (
      S23_k0 b_a b_l b_c cap cap_1 cap_2 ⟨w_.heap.size, 0, none⟩ true ((((w_.alloc (.cells ⟨[(.bool false), (.int .u64 0), (.slice none 0 0)]⟩ 58)).setCell ⟨w_.heap.size, 0, none⟩ (.bool t14_0_0)).setCell ⟨w_.heap.size, 1, none⟩ (.int .u64 t14_0_1)).setCell ⟨w_.heap.size, 2, none⟩ (.slice t14_0_2_a t14_0_2_l t14_0_2_c)) R
    ) (
      S23_k0 b_a b_l b_c cap cap_1 cap_2 ⟨w_.heap.size, 0, none⟩ (!decide ((t14_1 : Int) = 0)) ((((w_.alloc (.cells ⟨[(.bool false), (.int .u64 0), (.slice none 0 0)]⟩ 58)).setCell ⟨w_.heap.size, 0, none⟩ (.bool t14_0_0)).setCell ⟨w_.heap.size, 1, none⟩ (.int .u64 t14_0_1)).setCell ⟨w_.heap.size, 2, none⟩ (.slice t14_0_2_a t14_0_2_l t14_0_2_c)) R
    )

theorem S23_eq (b_a : Option Addr) (b_l : Nat) (b_c : Nat) (is : Bool) (cap : Addr) (cap_1 : Addr) (cap_2 : Addr) (w : World) (R : Value → World → Prop) : Eng.R Try.prog ⟨cal, S23_nx⟩ 41 S23_ann [] (Try.f23.body.getD .skip) (bodyQ Try.prog #[] R) (argE [(.slice b_a b_l b_c), (.bool is), (.pointer (some cap)), (.pointer (some cap_1)), (.pointer (some cap_2))]) w = S23 b_a b_l b_c is cap cap_1 cap_2 w R := by kernel_rfl
/-- A call of 'carfax/carfaxtop.TopTold$2', by its condition. -/
theorem S23_calls {b_a : Option Addr} {b_l : Nat} {b_c : Nat} {is : Bool} {cap : Addr} {cap_1 : Addr} {cap_2 : Addr} {w : World} {R : Value → World → Prop} (hS : S23 b_a b_l b_c is cap cap_1 cap_2 w R) : Ret Try.prog 23 [(.slice b_a b_l b_c), (.bool is), (.pointer (some cap)), (.pointer (some cap_1)), (.pointer (some cap_2))] w R :=
  R_calls (C := ⟨cal, S23_nx⟩) cal_ok follows Try.func23 (c := Try.f23.body.getD .skip) (res := #[]) (n := 41) (by kernel_rfl) (by kernel_rfl) (by kernel_rfl) (by kernel_rfl) ((S23_eq b_a b_l b_c is cap cap_1 cap_2 w R).mpr hS)

def S24_ann (p : List Nat) : Option LA :=
  none

def S24_nx (t : Nat) : Option (TypeId × TypeId) := none

def S24_k1 (s_ : Option Addr) (w : World) (R : Value → World → Prop) : Prop :=
  ∃ (t42 : Addr),
  s_ = some t42 ∧
  (∃ u, w.cell? (t42.add 1) = some u) ∧
  w.frozen? (t42.add 1) = false ∧
  ∃ (t44 : Addr),
  s_ = some t44 ∧
  (∃ u, (w.setCell (t42.add 1) (.bool false)).cell? (t44.add 2) = some u) ∧
  (w.setCell (t42.add 1) (.bool false)).frozen? (t44.add 2) = false ∧
  ∃ (t47 : Addr),
  s_ = some t47 ∧
  ∃ (t49 : Int),
  ((w.setCell (t42.add 1) (.bool false)).setCell (t44.add 2) (.slice none 0 0)).cell? t47 = some (.int .u64 t49) ∧
  ∃ (t51 : Addr),
  s_ = some t51 ∧
  (∃ u, ((w.setCell (t42.add 1) (.bool false)).setCell (t44.add 2) (.slice none 0 0)).cell? t51 = some u) ∧
  ((w.setCell (t42.add 1) (.bool false)).setCell (t44.add 2) (.slice none 0 0)).frozen? t51 = false ∧
  R (.bool true) (((w.setCell (t42.add 1) (.bool false)).setCell (t44.add 2) (.slice none 0 0)).setCell t51 (.int .u64 (IntKind.u64.wrap (t49 + 1))))

def S24_k0 (s_ : Option Addr) (t39 : Bool) (w : World) (R : Value → World → Prop) : Prop :=
  cond t39 (
    R (.bool false) w
  ) (
    S24_k1 s_ w R
  )

def S24 (s_ : Option Addr) (b_a : Option Addr) (b_l : Nat) (b_c : Nat) (w : World) (R : Value → World → Prop) : Prop :=
  Calls Try.prog 19 ⟨[(.slice b_a b_l b_c)]⟩ w fun e w_ =>
    ∃ (t9_0_0 : Bool) (t9_0_1 : Int) (t9_0_2_a : Option Addr) (t9_0_2_l : Nat) (t9_0_2_c : Nat) (t9_1 : Int),
    e = .returned (.tuple ⟨[(.agg ⟨[(.bool t9_0_0), (.int .u64 t9_0_1), (.slice t9_0_2_a t9_0_2_l t9_0_2_c)]⟩), (.int .i64 t9_1)]⟩) ∧
    (∃ u, (w_.alloc (.cells ⟨[(.bool false), (.int .u64 0), (.slice none 0 0)]⟩ 58)).cell? ⟨w_.heap.size, 0, none⟩ = some u) ∧
    (w_.alloc (.cells ⟨[(.bool false), (.int .u64 0), (.slice none 0 0)]⟩ 58)).frozen? ⟨w_.heap.size, 0, none⟩ = false ∧
    (∃ u, ((w_.alloc (.cells ⟨[(.bool false), (.int .u64 0), (.slice none 0 0)]⟩ 58)).setCell ⟨w_.heap.size, 0, none⟩ (.bool t9_0_0)).cell? ⟨w_.heap.size, 1, none⟩ = some u) ∧
    ((w_.alloc (.cells ⟨[(.bool false), (.int .u64 0), (.slice none 0 0)]⟩ 58)).setCell ⟨w_.heap.size, 0, none⟩ (.bool t9_0_0)).frozen? ⟨w_.heap.size, 1, none⟩ = false ∧
    (∃ u, (((w_.alloc (.cells ⟨[(.bool false), (.int .u64 0), (.slice none 0 0)]⟩ 58)).setCell ⟨w_.heap.size, 0, none⟩ (.bool t9_0_0)).setCell ⟨w_.heap.size, 1, none⟩ (.int .u64 t9_0_1)).cell? ⟨w_.heap.size, 2, none⟩ = some u) ∧
    (((w_.alloc (.cells ⟨[(.bool false), (.int .u64 0), (.slice none 0 0)]⟩ 58)).setCell ⟨w_.heap.size, 0, none⟩ (.bool t9_0_0)).setCell ⟨w_.heap.size, 1, none⟩ (.int .u64 t9_0_1)).frozen? ⟨w_.heap.size, 2, none⟩ = false ∧
    cond (Option.isNone s_) (
      S24_k0 s_ true ((((w_.alloc (.cells ⟨[(.bool false), (.int .u64 0), (.slice none 0 0)]⟩ 58)).setCell ⟨w_.heap.size, 0, none⟩ (.bool t9_0_0)).setCell ⟨w_.heap.size, 1, none⟩ (.int .u64 t9_0_1)).setCell ⟨w_.heap.size, 2, none⟩ (.slice t9_0_2_a t9_0_2_l t9_0_2_c)).drew R
    ) (
      ∃ (t16 : Addr),
      s_ = some t16 ∧
      ∃ (t18 : Bool),
      ((((w_.alloc (.cells ⟨[(.bool false), (.int .u64 0), (.slice none 0 0)]⟩ 58)).setCell ⟨w_.heap.size, 0, none⟩ (.bool t9_0_0)).setCell ⟨w_.heap.size, 1, none⟩ (.int .u64 t9_0_1)).setCell ⟨w_.heap.size, 2, none⟩ (.slice t9_0_2_a t9_0_2_l t9_0_2_c)).drew.cell? (t16.add 1) = some (.bool t18) ∧
      cond (!t18) (
        S24_k0 s_ true ((((w_.alloc (.cells ⟨[(.bool false), (.int .u64 0), (.slice none 0 0)]⟩ 58)).setCell ⟨w_.heap.size, 0, none⟩ (.bool t9_0_0)).setCell ⟨w_.heap.size, 1, none⟩ (.int .u64 t9_0_1)).setCell ⟨w_.heap.size, 2, none⟩ (.slice t9_0_2_a t9_0_2_l t9_0_2_c)).drew R
      ) (
        cond (!decide ((t9_1 : Int) = 0)) (
          S24_k0 s_ true ((((w_.alloc (.cells ⟨[(.bool false), (.int .u64 0), (.slice none 0 0)]⟩ 58)).setCell ⟨w_.heap.size, 0, none⟩ (.bool t9_0_0)).setCell ⟨w_.heap.size, 1, none⟩ (.int .u64 t9_0_1)).setCell ⟨w_.heap.size, 2, none⟩ (.slice t9_0_2_a t9_0_2_l t9_0_2_c)).drew R
        ) (
          ∃ (t27 : Bool),
          ((((w_.alloc (.cells ⟨[(.bool false), (.int .u64 0), (.slice none 0 0)]⟩ 58)).setCell ⟨w_.heap.size, 0, none⟩ (.bool t9_0_0)).setCell ⟨w_.heap.size, 1, none⟩ (.int .u64 t9_0_1)).setCell ⟨w_.heap.size, 2, none⟩ (.slice t9_0_2_a t9_0_2_l t9_0_2_c)).drew.cell? ⟨w_.heap.size, 0, none⟩ = some (.bool t27) ∧
          cond (!t27) (
            S24_k0 s_ true ((((w_.alloc (.cells ⟨[(.bool false), (.int .u64 0), (.slice none 0 0)]⟩ 58)).setCell ⟨w_.heap.size, 0, none⟩ (.bool t9_0_0)).setCell ⟨w_.heap.size, 1, none⟩ (.int .u64 t9_0_1)).setCell ⟨w_.heap.size, 2, none⟩ (.slice t9_0_2_a t9_0_2_l t9_0_2_c)).drew R
          ) (
            ∃ (t34 : Addr),
            s_ = some t34 ∧
            ∃ (t36 : Int),
            ((((w_.alloc (.cells ⟨[(.bool false), (.int .u64 0), (.slice none 0 0)]⟩ 58)).setCell ⟨w_.heap.size, 0, none⟩ (.bool t9_0_0)).setCell ⟨w_.heap.size, 1, none⟩ (.int .u64 t9_0_1)).setCell ⟨w_.heap.size, 2, none⟩ (.slice t9_0_2_a t9_0_2_l t9_0_2_c)).drew.cell? t34 = some (.int .u64 t36) ∧
            ∃ (t32 : Int),
            ((((w_.alloc (.cells ⟨[(.bool false), (.int .u64 0), (.slice none 0 0)]⟩ 58)).setCell ⟨w_.heap.size, 0, none⟩ (.bool t9_0_0)).setCell ⟨w_.heap.size, 1, none⟩ (.int .u64 t9_0_1)).setCell ⟨w_.heap.size, 2, none⟩ (.slice t9_0_2_a t9_0_2_l t9_0_2_c)).drew.cell? ⟨w_.heap.size, 1, none⟩ = some (.int .u64 t32) ∧
            S24_k0 s_ (!decide ((t32 : Int) = (IntKind.u64.wrap (t36 + 1)))) ((((w_.alloc (.cells ⟨[(.bool false), (.int .u64 0), (.slice none 0 0)]⟩ 58)).setCell ⟨w_.heap.size, 0, none⟩ (.bool t9_0_0)).setCell ⟨w_.heap.size, 1, none⟩ (.int .u64 t9_0_1)).setCell ⟨w_.heap.size, 2, none⟩ (.slice t9_0_2_a t9_0_2_l t9_0_2_c)).drew R
          )
        )
      )
    )

theorem S24_eq (s_ : Option Addr) (b_a : Option Addr) (b_l : Nat) (b_c : Nat) (w : World) (R : Value → World → Prop) : Eng.R Try.prog ⟨cal, S24_nx⟩ 53 S24_ann [] (Try.f24.body.getD .skip) (bodyQ Try.prog #[.tmp 4] R) (argE [(.pointer s_), (.slice b_a b_l b_c)]) w = S24 s_ b_a b_l b_c w R := by kernel_rfl
/-- A call of '(*carfax/link.Sender).Hear', by its condition. -/
theorem S24_calls {s_ : Option Addr} {b_a : Option Addr} {b_l : Nat} {b_c : Nat} {w : World} {R : Value → World → Prop} (hS : S24 s_ b_a b_l b_c w R) : Ret Try.prog 24 [(.pointer s_), (.slice b_a b_l b_c)] w R :=
  R_calls (C := ⟨cal, S24_nx⟩) cal_ok follows Try.func24 (c := Try.f24.body.getD .skip) (res := #[.tmp 4]) (n := 53) (by kernel_rfl) (by kernel_rfl) (by kernel_rfl) (by kernel_rfl) ((S24_eq s_ b_a b_l b_c w R).mpr hS)

def S25_ann (p : List Nat) : Option LA :=
  none

def S25_nx (t : Nat) : Option (TypeId × TypeId) := none

def S25_k3 (r : Option Addr) (back_a : Option Addr) (back_l : Nat) (back_c : Nat) (p : Addr) (w : World) (R : Value → World → Prop) : Prop :=
  ∃ (t56 : Addr),
  r = some t56 ∧
  ∃ (t58 : Int),
  w.cell? t56 = some (.int .u64 t58) ∧
  ∃ (t60 : Addr),
  r = some t60 ∧
  (∃ u, w.cell? t60 = some u) ∧
  w.frozen? t60 = false ∧
  ∃ (t63_a : Option Addr) (t63_l : Nat) (t63_c : Nat),
  (w.setCell t60 (.int .u64 (IntKind.u64.wrap (t58 + 1)))).cell? (p.add 2) = some (.slice t63_a t63_l t63_c) ∧
  R (.tuple ⟨[(.slice t63_a t63_l t63_c), (.bool true), (.slice back_a back_l back_c)]⟩) (w.setCell t60 (.int .u64 (IntKind.u64.wrap (t58 + 1))))

def S25_k2 (r : Option Addr) (back_a : Option Addr) (back_l : Nat) (back_c : Nat) (p : Addr) (t53 : Bool) (w : World) (R : Value → World → Prop) : Prop :=
  cond t53 (
    R (.tuple ⟨[(.slice none 0 0), (.bool false), (.slice back_a back_l back_c)]⟩) w
  ) (
    S25_k3 r back_a back_l back_c p w R
  )

def S25_k1 (r : Option Addr) (p : Addr) (w : World) (R : Value → World → Prop) : Prop :=
  ∃ (t41 : Int),
  w.cell? (p.add 1) = some (.int .u64 t41) ∧
  Calls Try.prog 29 ⟨[(.agg ⟨[(.bool true), (.int .u64 t41), (.slice none 0 0)]⟩)]⟩ w fun e w_ =>
    ∃ (t43_0_a : Option Addr) (t43_0_l : Nat) (t43_0_c : Nat) (t43_1 : Int),
    e = .returned (.tuple ⟨[(.slice t43_0_a t43_0_l t43_0_c), (.int .i64 t43_1)]⟩) ∧
    ∃ (t49 : Addr),
    r = some t49 ∧
    ∃ (t51 : Int),
    w_.drew.cell? t49 = some (.int .u64 t51) ∧
    ∃ (t47 : Int),
    w_.drew.cell? (p.add 1) = some (.int .u64 t47) ∧
    S25_k2 r t43_0_a t43_0_l t43_0_c p (!decide ((t47 : Int) = (IntKind.u64.wrap (t51 + 1)))) w_.drew R

def S25_k0 (r : Option Addr) (p : Addr) (t38 : Bool) (w : World) (R : Value → World → Prop) : Prop :=
  cond t38 (
    R (.tuple ⟨[(.slice none 0 0), (.bool false), (.slice none 0 0)]⟩) w
  ) (
    S25_k1 r p w R
  )

def S25 (r : Option Addr) (b_a : Option Addr) (b_l : Nat) (b_c : Nat) (w : World) (R : Value → World → Prop) : Prop :=
  Calls Try.prog 19 ⟨[(.slice b_a b_l b_c)]⟩ w fun e w_ =>
    ∃ (t11_0_0 : Bool) (t11_0_1 : Int) (t11_0_2_a : Option Addr) (t11_0_2_l : Nat) (t11_0_2_c : Nat) (t11_1 : Int),
    e = .returned (.tuple ⟨[(.agg ⟨[(.bool t11_0_0), (.int .u64 t11_0_1), (.slice t11_0_2_a t11_0_2_l t11_0_2_c)]⟩), (.int .i64 t11_1)]⟩) ∧
    (∃ u, (w_.alloc (.cells ⟨[(.bool false), (.int .u64 0), (.slice none 0 0)]⟩ 58)).cell? ⟨w_.heap.size, 0, none⟩ = some u) ∧
    (w_.alloc (.cells ⟨[(.bool false), (.int .u64 0), (.slice none 0 0)]⟩ 58)).frozen? ⟨w_.heap.size, 0, none⟩ = false ∧
    (∃ u, ((w_.alloc (.cells ⟨[(.bool false), (.int .u64 0), (.slice none 0 0)]⟩ 58)).setCell ⟨w_.heap.size, 0, none⟩ (.bool t11_0_0)).cell? ⟨w_.heap.size, 1, none⟩ = some u) ∧
    ((w_.alloc (.cells ⟨[(.bool false), (.int .u64 0), (.slice none 0 0)]⟩ 58)).setCell ⟨w_.heap.size, 0, none⟩ (.bool t11_0_0)).frozen? ⟨w_.heap.size, 1, none⟩ = false ∧
    (∃ u, (((w_.alloc (.cells ⟨[(.bool false), (.int .u64 0), (.slice none 0 0)]⟩ 58)).setCell ⟨w_.heap.size, 0, none⟩ (.bool t11_0_0)).setCell ⟨w_.heap.size, 1, none⟩ (.int .u64 t11_0_1)).cell? ⟨w_.heap.size, 2, none⟩ = some u) ∧
    (((w_.alloc (.cells ⟨[(.bool false), (.int .u64 0), (.slice none 0 0)]⟩ 58)).setCell ⟨w_.heap.size, 0, none⟩ (.bool t11_0_0)).setCell ⟨w_.heap.size, 1, none⟩ (.int .u64 t11_0_1)).frozen? ⟨w_.heap.size, 2, none⟩ = false ∧
    cond (Option.isNone r) (
      S25_k0 r ⟨w_.heap.size, 0, none⟩ true ((((w_.alloc (.cells ⟨[(.bool false), (.int .u64 0), (.slice none 0 0)]⟩ 58)).setCell ⟨w_.heap.size, 0, none⟩ (.bool t11_0_0)).setCell ⟨w_.heap.size, 1, none⟩ (.int .u64 t11_0_1)).setCell ⟨w_.heap.size, 2, none⟩ (.slice t11_0_2_a t11_0_2_l t11_0_2_c)).drew R
    ) (
      cond (!decide ((t11_1 : Int) = 0)) (
        S25_k0 r ⟨w_.heap.size, 0, none⟩ true ((((w_.alloc (.cells ⟨[(.bool false), (.int .u64 0), (.slice none 0 0)]⟩ 58)).setCell ⟨w_.heap.size, 0, none⟩ (.bool t11_0_0)).setCell ⟨w_.heap.size, 1, none⟩ (.int .u64 t11_0_1)).setCell ⟨w_.heap.size, 2, none⟩ (.slice t11_0_2_a t11_0_2_l t11_0_2_c)).drew R
      ) (
        ∃ (t22 : Bool),
        ((((w_.alloc (.cells ⟨[(.bool false), (.int .u64 0), (.slice none 0 0)]⟩ 58)).setCell ⟨w_.heap.size, 0, none⟩ (.bool t11_0_0)).setCell ⟨w_.heap.size, 1, none⟩ (.int .u64 t11_0_1)).setCell ⟨w_.heap.size, 2, none⟩ (.slice t11_0_2_a t11_0_2_l t11_0_2_c)).drew.cell? ⟨w_.heap.size, 0, none⟩ = some (.bool t22) ∧
        cond t22 (
          S25_k0 r ⟨w_.heap.size, 0, none⟩ true ((((w_.alloc (.cells ⟨[(.bool false), (.int .u64 0), (.slice none 0 0)]⟩ 58)).setCell ⟨w_.heap.size, 0, none⟩ (.bool t11_0_0)).setCell ⟨w_.heap.size, 1, none⟩ (.int .u64 t11_0_1)).setCell ⟨w_.heap.size, 2, none⟩ (.slice t11_0_2_a t11_0_2_l t11_0_2_c)).drew R
        ) (
          ∃ (t26 : Int),
          ((((w_.alloc (.cells ⟨[(.bool false), (.int .u64 0), (.slice none 0 0)]⟩ 58)).setCell ⟨w_.heap.size, 0, none⟩ (.bool t11_0_0)).setCell ⟨w_.heap.size, 1, none⟩ (.int .u64 t11_0_1)).setCell ⟨w_.heap.size, 2, none⟩ (.slice t11_0_2_a t11_0_2_l t11_0_2_c)).drew.cell? ⟨w_.heap.size, 1, none⟩ = some (.int .u64 t26) ∧
          cond (decide ((t26 : Int) = 0)) (
            S25_k0 r ⟨w_.heap.size, 0, none⟩ true ((((w_.alloc (.cells ⟨[(.bool false), (.int .u64 0), (.slice none 0 0)]⟩ 58)).setCell ⟨w_.heap.size, 0, none⟩ (.bool t11_0_0)).setCell ⟨w_.heap.size, 1, none⟩ (.int .u64 t11_0_1)).setCell ⟨w_.heap.size, 2, none⟩ (.slice t11_0_2_a t11_0_2_l t11_0_2_c)).drew R
          ) (
            ∃ (t33 : Addr),
            r = some t33 ∧
            ∃ (t35 : Int),
            ((((w_.alloc (.cells ⟨[(.bool false), (.int .u64 0), (.slice none 0 0)]⟩ 58)).setCell ⟨w_.heap.size, 0, none⟩ (.bool t11_0_0)).setCell ⟨w_.heap.size, 1, none⟩ (.int .u64 t11_0_1)).setCell ⟨w_.heap.size, 2, none⟩ (.slice t11_0_2_a t11_0_2_l t11_0_2_c)).drew.cell? t33 = some (.int .u64 t35) ∧
            ∃ (t31 : Int),
            ((((w_.alloc (.cells ⟨[(.bool false), (.int .u64 0), (.slice none 0 0)]⟩ 58)).setCell ⟨w_.heap.size, 0, none⟩ (.bool t11_0_0)).setCell ⟨w_.heap.size, 1, none⟩ (.int .u64 t11_0_1)).setCell ⟨w_.heap.size, 2, none⟩ (.slice t11_0_2_a t11_0_2_l t11_0_2_c)).drew.cell? ⟨w_.heap.size, 1, none⟩ = some (.int .u64 t31) ∧
            S25_k0 r ⟨w_.heap.size, 0, none⟩ (decide (((IntKind.u64.wrap (t35 + 1)) : Int) < t31)) ((((w_.alloc (.cells ⟨[(.bool false), (.int .u64 0), (.slice none 0 0)]⟩ 58)).setCell ⟨w_.heap.size, 0, none⟩ (.bool t11_0_0)).setCell ⟨w_.heap.size, 1, none⟩ (.int .u64 t11_0_1)).setCell ⟨w_.heap.size, 2, none⟩ (.slice t11_0_2_a t11_0_2_l t11_0_2_c)).drew R
          )
        )
      )
    )

theorem S25_eq (r : Option Addr) (b_a : Option Addr) (b_l : Nat) (b_c : Nat) (w : World) (R : Value → World → Prop) : Eng.R Try.prog ⟨cal, S25_nx⟩ 65 S25_ann [] (Try.f25.body.getD .skip) (bodyQ Try.prog #[.tmp 4, .tmp 5, .tmp 6] R) (argE [(.pointer r), (.slice b_a b_l b_c)]) w = S25 r b_a b_l b_c w R := by kernel_rfl
/-- A call of '(*carfax/link.Receiver).Hear', by its condition. -/
theorem S25_calls {r : Option Addr} {b_a : Option Addr} {b_l : Nat} {b_c : Nat} {w : World} {R : Value → World → Prop} (hS : S25 r b_a b_l b_c w R) : Ret Try.prog 25 [(.pointer r), (.slice b_a b_l b_c)] w R :=
  R_calls (C := ⟨cal, S25_nx⟩) cal_ok follows Try.func25 (c := Try.f25.body.getD .skip) (res := #[.tmp 4, .tmp 5, .tmp 6]) (n := 65) (by kernel_rfl) (by kernel_rfl) (by kernel_rfl) (by kernel_rfl) ((S25_eq r b_a b_l b_c w R).mpr hS)

def S26_ann (p : List Nat) : Option LA :=
  none

def S26_nx (t : Nat) : Option (TypeId × TypeId) := none

def S26_k0 (x : Addr) (w : World) (R : Value → World → Prop) : Prop :=
  Calls Try.prog 43 ⟨[]⟩ w fun e w_ =>
    ∃ (t8 : Option Addr),
    e = .returned (.pointer t8) ∧
    (∃ u, (w_.alloc (.cells ⟨[(.pointer none)]⟩ 93)).cell? ⟨w_.heap.size, 0, none⟩ = some u) ∧
    (w_.alloc (.cells ⟨[(.pointer none)]⟩ 93)).frozen? ⟨w_.heap.size, 0, none⟩ = false ∧
    ∃ (t10_0 : Option Addr),
    ((w_.alloc (.cells ⟨[(.pointer none)]⟩ 93)).setCell ⟨w_.heap.size, 0, none⟩ (.pointer t8)).cell? ⟨w_.heap.size, 0, none⟩ = some (.pointer t10_0) ∧
    ∃ (t12 : Int),
    ((w_.alloc (.cells ⟨[(.pointer none)]⟩ 93)).setCell ⟨w_.heap.size, 0, none⟩ (.pointer t8)).cell? x = some (.int .u8 t12) ∧
    Calls Try.prog 44 ⟨[(.agg ⟨[(.pointer t10_0)]⟩), (.int .i64 (IntKind.i64.wrap t12)), (.int .i64 2)]⟩ ((w_.alloc (.cells ⟨[(.pointer none)]⟩ 93)).setCell ⟨w_.heap.size, 0, none⟩ (.pointer t8)) fun e w__1 =>
      e = .returned (.tuple ⟨[]⟩) ∧
      ∃ (t15_0 : Option Addr),
      w__1.cell? ⟨w_.heap.size, 0, none⟩ = some (.pointer t15_0) ∧
      ∃ (t17 : Int),
      w__1.cell? (x.add 1) = some (.int .i64 t17) ∧
      Calls Try.prog 44 ⟨[(.agg ⟨[(.pointer t15_0)]⟩), (.int .i64 t17), (.int .i64 8)]⟩ w__1 fun e w__2 =>
        e = .returned (.tuple ⟨[]⟩) ∧
        ∃ (t19_0 : Option Addr),
        w__2.cell? ⟨w_.heap.size, 0, none⟩ = some (.pointer t19_0) ∧
        ∃ (t21 : Int),
        w__2.cell? (x.add 2) = some (.int .i64 t21) ∧
        Calls Try.prog 44 ⟨[(.agg ⟨[(.pointer t19_0)]⟩), (.int .i64 t21), (.int .i64 6)]⟩ w__2 fun e w__3 =>
          e = .returned (.tuple ⟨[]⟩) ∧
          ∃ (t24 : Option Addr),
          w__3.cell? ⟨w_.heap.size, 0, none⟩ = some (.pointer t24) ∧
          Calls Try.prog 46 ⟨[(.pointer t24)]⟩ w__3 fun e w__4 =>
            ∃ (t25_a : Option Addr) (t25_l : Nat) (t25_c : Nat),
            e = .returned (.slice t25_a t25_l t25_c) ∧
            R (.tuple ⟨[(.slice t25_a t25_l t25_c), (.int .i64 0)]⟩) w__4

def S26 (x_0 : Int) (x_1 : Int) (x_2 : Int) (w : World) (R : Value → World → Prop) : Prop :=
  ∃ (t5_0 : Int),
  (w.alloc (.cells ⟨[(.int .u8 x_0), (.int .i64 x_1), (.int .i64 x_2)]⟩ 67)).cell? ⟨w.heap.size, 0, none⟩ = some (.int .u8 t5_0) ∧
  ∃ (t5_1 : Int),
  (w.alloc (.cells ⟨[(.int .u8 x_0), (.int .i64 x_1), (.int .i64 x_2)]⟩ 67)).cell? ⟨w.heap.size, 1, none⟩ = some (.int .i64 t5_1) ∧
  ∃ (t5_2 : Int),
  (w.alloc (.cells ⟨[(.int .u8 x_0), (.int .i64 x_1), (.int .i64 x_2)]⟩ 67)).cell? ⟨w.heap.size, 2, none⟩ = some (.int .i64 t5_2) ∧
  Calls Try.prog 60 ⟨[(.agg ⟨[(.int .u8 t5_0), (.int .i64 t5_1), (.int .i64 t5_2)]⟩)]⟩ (w.alloc (.cells ⟨[(.int .u8 x_0), (.int .i64 x_1), (.int .i64 x_2)]⟩ 67)) fun e w_ =>
    ∃ (t6 : Bool),
    e = .returned (.bool t6) ∧
    cond (!t6) (
      R (.tuple ⟨[(.slice none 0 0), (.int .i64 1)]⟩) w_
    ) (
      S26_k0 ⟨w.heap.size, 0, none⟩ w_ R
    )

theorem S26_eq (x_0 : Int) (x_1 : Int) (x_2 : Int) (w : World) (R : Value → World → Prop) : Eng.R Try.prog ⟨cal, S26_nx⟩ 26 S26_ann [] (Try.f26.body.getD .skip) (bodyQ Try.prog #[.tmp 2, .tmp 3] R) (argE [(.agg ⟨[(.int .u8 x_0), (.int .i64 x_1), (.int .i64 x_2)]⟩)]) w = S26 x_0 x_1 x_2 w R := by kernel_rfl
/-- A call of 'carfax/record.LayAct', by its condition. -/
theorem S26_calls {x_0 : Int} {x_1 : Int} {x_2 : Int} {w : World} {R : Value → World → Prop} (hS : S26 x_0 x_1 x_2 w R) : Ret Try.prog 26 [(.agg ⟨[(.int .u8 x_0), (.int .i64 x_1), (.int .i64 x_2)]⟩)] w R :=
  R_calls (C := ⟨cal, S26_nx⟩) cal_ok follows Try.func26 (c := Try.f26.body.getD .skip) (res := #[.tmp 2, .tmp 3]) (n := 26) (by kernel_rfl) (by kernel_rfl) (by kernel_rfl) (by kernel_rfl) ((S26_eq x_0 x_1 x_2 w R).mpr hS)

def S27_ann (p : List Nat) : Option LA :=
  none

def S27_nx (t : Nat) : Option (TypeId × TypeId) := none

def S27_k0 (r : Option Addr) (w : World) (R : Value → World → Prop) : Prop :=
  ∃ (t6 : Addr),
  r = some t6 ∧
  ∃ (t8 : Int),
  w.cell? t6 = some (.int .u64 t8) ∧
  R (.int .u64 t8) w

def S27 (r : Option Addr) (w : World) (R : Value → World → Prop) : Prop :=
  cond (Option.isNone r) (
    R (.int .u64 0) w
  ) (
    S27_k0 r w R
  )

theorem S27_eq (r : Option Addr) (w : World) (R : Value → World → Prop) : Eng.R Try.prog ⟨cal, S27_nx⟩ 9 S27_ann [] (Try.f27.body.getD .skip) (bodyQ Try.prog #[.tmp 2] R) (argE [(.pointer r)]) w = S27 r w R := by kernel_rfl
/-- A call of '(*carfax/link.Receiver).Heard', by its condition. -/
theorem S27_calls {r : Option Addr} {w : World} {R : Value → World → Prop} (hS : S27 r w R) : Ret Try.prog 27 [(.pointer r)] w R :=
  R_calls (C := ⟨cal, S27_nx⟩) cal_ok follows Try.func27 (c := Try.f27.body.getD .skip) (res := #[.tmp 2]) (n := 9) (by kernel_rfl) (by kernel_rfl) (by kernel_rfl) (by kernel_rfl) ((S27_eq r w R).mpr hS)

def S28_ann (p : List Nat) : Option LA :=
  none

def S28_nx (t : Nat) : Option (TypeId × TypeId) := none

def S28_k1 (s_ : Option Addr) (w : World) (R : Value → World → Prop) : Prop :=
  ∃ (t17 : Addr),
  s_ = some t17 ∧
  ∃ (t22 : Addr),
  s_ = some t22 ∧
  ∃ (t19 : Int),
  w.drew.cell? t17 = some (.int .u64 t19) ∧
  ∃ (t24_a : Option Addr) (t24_l : Nat) (t24_c : Nat),
  w.drew.cell? (t22.add 2) = some (.slice t24_a t24_l t24_c) ∧
  Calls Try.prog 29 ⟨[(.agg ⟨[(.bool false), (.int .u64 (IntKind.u64.wrap (t19 + 1))), (.slice t24_a t24_l t24_c)]⟩)]⟩ w.drew fun e w_ =>
    ∃ (t26_0_a : Option Addr) (t26_0_l : Nat) (t26_0_c : Nat) (t26_1 : Int),
    e = .returned (.tuple ⟨[(.slice t26_0_a t26_0_l t26_0_c), (.int .i64 t26_1)]⟩) ∧
    R (.tuple ⟨[(.slice t26_0_a t26_0_l t26_0_c), (.bool true)]⟩) w_

def S28_k0 (s_ : Option Addr) (t14 : Bool) (w : World) (R : Value → World → Prop) : Prop :=
  cond t14 (
    R (.tuple ⟨[(.slice none 0 0), (.bool false)]⟩) w
  ) (
    S28_k1 s_ w R
  )

def S28 (s_ : Option Addr) (w : World) (R : Value → World → Prop) : Prop :=
  cond (Option.isNone s_) (
    S28_k0 s_ true w R
  ) (
    ∃ (t10 : Addr),
    s_ = some t10 ∧
    ∃ (t12 : Bool),
    w.cell? (t10.add 1) = some (.bool t12) ∧
    S28_k0 s_ (!t12) w R
  )

theorem S28_eq (s_ : Option Addr) (w : World) (R : Value → World → Prop) : Eng.R Try.prog ⟨cal, S28_nx⟩ 30 S28_ann [] (Try.f28.body.getD .skip) (bodyQ Try.prog #[.tmp 2, .tmp 3] R) (argE [(.pointer s_)]) w = S28 s_ w R := by kernel_rfl
/-- A call of '(*carfax/link.Sender).Packet', by its condition. -/
theorem S28_calls {s_ : Option Addr} {w : World} {R : Value → World → Prop} (hS : S28 s_ w R) : Ret Try.prog 28 [(.pointer s_)] w R :=
  R_calls (C := ⟨cal, S28_nx⟩) cal_ok follows Try.func28 (c := Try.f28.body.getD .skip) (res := #[.tmp 2, .tmp 3]) (n := 30) (by kernel_rfl) (by kernel_rfl) (by kernel_rfl) (by kernel_rfl) ((S28_eq s_ w R).mpr hS)

def S29_ann (p : List Nat) : Option LA := match p with
  | [0, 1, 0, 1, 1, 1, 1, 1, 1] => some ⟨[4, 5, 41, 42], [(43, .one (.int .i64))]⟩
  | _ => none

def S29_nx (t : Nat) : Option (TypeId × TypeId) := none

def S29_k5 (w_ : Option Addr) (put_f0 : Option Addr) (t41_a : Option Addr) (t41_l : Nat) (t41_c : Nat) (t42 : Int) (t43 : Int) (w : World) (R : Value → World → Prop) (B1 : (Int) × Unit → World → Prop) : Prop :=
  ∃ (t45 : Addr),
  t41_a = some t45 ∧
  0 ≤ (t43 : Int) ∧
  (t43 : Int) < ((t41_l : Nat) : Int) ∧
  ∃ (t46 : Int),
  w.cell? (t45.add (Int.toNat t43 * 1)) = some (.int .u8 t46) ∧
  Calls Try.prog 61 ⟨[(.pointer put_f0), (.int .u64 (IntKind.u64.wrap t46)), (.int .i64 8)]⟩ w fun e w__1 =>
    ∃ (t50 : Int),
    e = .returned (.int .i64 t50) ∧
    B1 ((IntKind.i64.wrap (t43 + 1)), ()) w__1

def S29_k6 (w_ : Option Addr) (w : World) (R : Value → World → Prop) : Prop :=
  Calls Try.prog 46 ⟨[(.pointer w_)]⟩ w fun e w__1 =>
    ∃ (t53_a : Option Addr) (t53_l : Nat) (t53_c : Nat),
    e = .returned (.slice t53_a t53_l t53_c) ∧
    Calls Try.prog 48 ⟨[(.slice t53_a t53_l t53_c)]⟩ w__1 fun e w__2 =>
      ∃ (t54_0_a : Option Addr) (t54_0_l : Nat) (t54_0_c : Nat) (t54_1 : Int),
      e = .returned (.tuple ⟨[(.slice t54_0_a t54_0_l t54_0_c), (.int .i64 t54_1)]⟩) ∧
      R (.tuple ⟨[(.slice t54_0_a t54_0_l t54_0_c), (.int .i64 t54_1)]⟩) w__2

def S29_L4 (w_ : Option Addr) (put_f0 : Option Addr) (t41_a : Option Addr) (t41_l : Nat) (t41_c : Nat) (t42 : Int) (t43 : Int) (w : World) (R : Value → World → Prop) (B1 : (Int) × Unit → World → Prop) : Prop :=
  cond (decide ((t43 : Int) < t42)) (
    S29_k5 w_ put_f0 t41_a t41_l t41_c t42 t43 w R B1
  ) (
    S29_k6 w_ w R
  )

def S29_k3 (p : Addr) (w_ : Option Addr) (put_f0 : Option Addr) (w : World) (R : Value → World → Prop) : Prop :=
  ∃ (t38 : Int),
  w.cell? (p.add 1) = some (.int .u64 t38) ∧
  Calls Try.prog 45 ⟨[(.pointer w_), (.int .u64 t38)]⟩ w fun e w__1 =>
    ∃ (t39 : Int),
    e = .returned (.int .i64 t39) ∧
    ∃ (t41_a : Option Addr) (t41_l : Nat) (t41_c : Nat),
    w__1.cell? (p.add 2) = some (.slice t41_a t41_l t41_c) ∧
    ∃ (I : (Int) × Unit → World → Prop) (μ : (Int) × Unit → World → Nat),
    I (0, ()) w__1 ∧
    ∀ (J : Env) (s : (Int) × Unit) (w' : World), I s w' →
      S29_L4 w_ put_f0 t41_a t41_l t41_c ((t41_l : Nat) : Int) s.1 w' R (fun s' w'' => I s' w'' ∧ μ s' w'' < μ s w')

def S29_k2 (p : Addr) (w : World) (R : Value → World → Prop) : Prop :=
  Calls Try.prog 43 ⟨[]⟩ w fun e w_ =>
    ∃ (t27 : Option Addr),
    e = .returned (.pointer t27) ∧
    ∃ (t31 : Bool),
    w_.cell? p = some (.bool t31) ∧
    cond t31 (
      Calls Try.prog 61 ⟨[(.pointer t27), (.int .u64 1), (.int .i64 1)]⟩ w_ fun e w__1 =>
        ∃ (t33 : Int),
        e = .returned (.int .i64 t33) ∧
        S29_k3 p t27 t27 w__1 R
    ) (
      Calls Try.prog 61 ⟨[(.pointer t27), (.int .u64 0), (.int .i64 1)]⟩ w_ fun e w__2 =>
        ∃ (t35 : Int),
        e = .returned (.int .i64 t35) ∧
        S29_k3 p t27 t27 w__2 R
    )

def S29_k1 (p : Addr) (t18 : Bool) (w : World) (R : Value → World → Prop) : Prop :=
  cond t18 (
    R (.tuple ⟨[(.slice none 0 0), (.int .i64 140)]⟩) w
  ) (
    S29_k2 p w R
  )

def S29_k0 (p : Addr) (t8 : Bool) (w : World) (R : Value → World → Prop) : Prop :=
  cond t8 (
    R (.tuple ⟨[(.slice none 0 0), (.int .i64 4)]⟩) w
  ) (
    ∃ (t20 : Bool),
    w.cell? p = some (.bool t20) ∧
    cond t20 (
      ∃ (t23_a : Option Addr) (t23_l : Nat) (t23_c : Nat),
      w.cell? (p.add 2) = some (.slice t23_a t23_l t23_c) ∧
      S29_k1 p (decide ((0 : Int) < ((t23_l : Nat) : Int))) w R
    ) (
      S29_k1 p false w R
    )
  )

def S29 (p_0 : Bool) (p_1 : Int) (p_2_a : Option Addr) (p_2_l : Nat) (p_2_c : Nat) (w : World) (R : Value → World → Prop) : Prop :=
  ∃ (t10_a : Option Addr) (t10_l : Nat) (t10_c : Nat),
  (w.alloc (.cells ⟨[(.bool p_0), (.int .u64 p_1), (.slice p_2_a p_2_l p_2_c)]⟩ 58)).cell? ⟨w.heap.size, 2, none⟩ = some (.slice t10_a t10_l t10_c) ∧
  cond (decide ((200 : Int) < ((t10_l : Nat) : Int))) (
    S29_k0 ⟨w.heap.size, 0, none⟩ true (w.alloc (.cells ⟨[(.bool p_0), (.int .u64 p_1), (.slice p_2_a p_2_l p_2_c)]⟩ 58)) R
  ) (
    ∃ (t15 : Int),
    (w.alloc (.cells ⟨[(.bool p_0), (.int .u64 p_1), (.slice p_2_a p_2_l p_2_c)]⟩ 58)).cell? ⟨w.heap.size, 1, none⟩ = some (.int .u64 t15) ∧
    S29_k0 ⟨w.heap.size, 0, none⟩ (decide ((t15 : Int) = 18446744073709551615)) (w.alloc (.cells ⟨[(.bool p_0), (.int .u64 p_1), (.slice p_2_a p_2_l p_2_c)]⟩ 58)) R
  )

theorem S29_eq (p_0 : Bool) (p_1 : Int) (p_2_a : Option Addr) (p_2_l : Nat) (p_2_c : Nat) (w : World) (R : Value → World → Prop) : Eng.R Try.prog ⟨cal, S29_nx⟩ 57 S29_ann [] (Try.f29.body.getD .skip) (bodyQ Try.prog #[.tmp 2, .tmp 3] R) (argE [(.agg ⟨[(.bool p_0), (.int .u64 p_1), (.slice p_2_a p_2_l p_2_c)]⟩)]) w = S29 p_0 p_1 p_2_a p_2_l p_2_c w R := by kernel_rfl
/-- A call of 'carfax/link.Lay', by its condition. -/
theorem S29_calls {p_0 : Bool} {p_1 : Int} {p_2_a : Option Addr} {p_2_l : Nat} {p_2_c : Nat} {w : World} {R : Value → World → Prop} (hS : S29 p_0 p_1 p_2_a p_2_l p_2_c w R) : Ret Try.prog 29 [(.agg ⟨[(.bool p_0), (.int .u64 p_1), (.slice p_2_a p_2_l p_2_c)]⟩)] w R :=
  R_calls (C := ⟨cal, S29_nx⟩) cal_ok follows Try.func29 (c := Try.f29.body.getD .skip) (res := #[.tmp 2, .tmp 3]) (n := 57) (by kernel_rfl) (by kernel_rfl) (by kernel_rfl) (by kernel_rfl) ((S29_eq p_0 p_1 p_2_a p_2_l p_2_c w R).mpr hS)

def S30_ann (p : List Nat) : Option LA :=
  none

def S30_nx (t : Nat) : Option (TypeId × TypeId) := none

def S30_k1 (s_ : Option Addr) (data_a : Option Addr) (data_l : Nat) (data_c : Nat) (w : World) (R : Value → World → Prop) : Prop :=
  ∃ (t27_a : Option Addr) (t27_l : Nat) (t27_c : Nat) (w_ : World),
  (Builtin.append_ #[36, 36] 36 ⟨[(.slice none 0 0), (.slice data_a data_l data_c)]⟩).run Try.prog w = .ok (.slice t27_a t27_l t27_c) w_ ∧
  ∃ (t28 : Addr),
  s_ = some t28 ∧
  (∃ u, w_.cell? (t28.add 1) = some u) ∧
  w_.frozen? (t28.add 1) = false ∧
  ∃ (t30 : Addr),
  s_ = some t30 ∧
  (∃ u, (w_.setCell (t28.add 1) (.bool true)).cell? (t30.add 2) = some u) ∧
  (w_.setCell (t28.add 1) (.bool true)).frozen? (t30.add 2) = false ∧
  R (.int .i64 0) ((w_.setCell (t28.add 1) (.bool true)).setCell (t30.add 2) (.slice t27_a t27_l t27_c))

def S30_k0 (s_ : Option Addr) (data_a : Option Addr) (data_l : Nat) (data_c : Nat) (t13 : Bool) (w : World) (R : Value → World → Prop) : Prop :=
  cond t13 (
    R (.int .i64 4) w
  ) (
    S30_k1 s_ data_a data_l data_c w R
  )

def S30 (s_ : Option Addr) (data_a : Option Addr) (data_l : Nat) (data_c : Nat) (w : World) (R : Value → World → Prop) : Prop :=
  cond (Option.isNone s_) (
    R (.int .i64 2) w
  ) (
    ∃ (t10 : Addr),
    s_ = some t10 ∧
    ∃ (t12 : Bool),
    w.cell? (t10.add 1) = some (.bool t12) ∧
    cond t12 (
      R (.int .i64 3) w
    ) (
      cond (decide ((200 : Int) < ((data_l : Nat) : Int))) (
        S30_k0 s_ data_a data_l data_c true w R
      ) (
        ∃ (t19 : Addr),
        s_ = some t19 ∧
        ∃ (t21 : Int),
        w.cell? t19 = some (.int .u64 t21) ∧
        S30_k0 s_ data_a data_l data_c (decide ((18446744073709551614 : Int) ≤ t21)) w R
      )
    )
  )

theorem S30_eq (s_ : Option Addr) (data_a : Option Addr) (data_l : Nat) (data_c : Nat) (w : World) (R : Value → World → Prop) : Eng.R Try.prog ⟨cal, S30_nx⟩ 32 S30_ann [] (Try.f30.body.getD .skip) (bodyQ Try.prog #[.tmp 4] R) (argE [(.pointer s_), (.slice data_a data_l data_c)]) w = S30 s_ data_a data_l data_c w R := by kernel_rfl
/-- A call of '(*carfax/link.Sender).Tell', by its condition. -/
theorem S30_calls {s_ : Option Addr} {data_a : Option Addr} {data_l : Nat} {data_c : Nat} {w : World} {R : Value → World → Prop} (hS : S30 s_ data_a data_l data_c w R) : Ret Try.prog 30 [(.pointer s_), (.slice data_a data_l data_c)] w R :=
  R_calls (C := ⟨cal, S30_nx⟩) cal_ok follows Try.func30 (c := Try.f30.body.getD .skip) (res := #[.tmp 4]) (n := 32) (by kernel_rfl) (by kernel_rfl) (by kernel_rfl) (by kernel_rfl) ((S30_eq s_ data_a data_l data_c w R).mpr hS)

def S31_ann (p : List Nat) : Option LA :=
  none

def S31_nx (t : Nat) : Option (TypeId × TypeId) := none

def S31_k0 (b_a : Option Addr) (b_l : Nat) (b_c : Nat) (is : Bool) (w : World) (R : Value → World → Prop) : Prop :=
  R (.tuple ⟨[(.slice b_a b_l b_c), (.bool is)]⟩) w

def S31 (n_ : Option Addr) (at_ : Int) (w : World) (R : Value → World → Prop) : Prop :=
  Calls Try.prog 32 ⟨[(.pointer n_), (.int .i64 at_)]⟩ w fun e w_ =>
    ∃ (t11_0_a : Option Addr) (t11_0_l : Nat) (t11_0_c : Nat) (t11_1 : Bool),
    e = .returned (.tuple ⟨[(.slice t11_0_a t11_0_l t11_0_c), (.bool t11_1)]⟩) ∧
    cond t11_1 (
      ∃ (t17 : Addr),
      n_ = some t17 ∧
      ∃ (t19_a : Option Addr) (t19_l : Nat) (t19_c : Nat),
      w_.cell? t17 = some (.slice t19_a t19_l t19_c) ∧
      Calls Try.prog 62 ⟨[(.slice t19_a t19_l t19_c), (.int .i64 at_), (.int .i64 (IntKind.i64.wrap (at_ + 1)))]⟩ w_ fun e w__1 =>
        ∃ (t23_a : Option Addr) (t23_l : Nat) (t23_c : Nat),
        e = .returned (.slice t23_a t23_l t23_c) ∧
        ∃ (t24 : Addr),
        n_ = some t24 ∧
        (∃ u, w__1.cell? t24 = some u) ∧
        w__1.frozen? t24 = false ∧
        S31_k0 t11_0_a t11_0_l t11_0_c t11_1 (w__1.setCell t24 (.slice t23_a t23_l t23_c)) R
    ) (
      S31_k0 t11_0_a t11_0_l t11_0_c t11_1 w_ R
    )

theorem S31_eq (n_ : Option Addr) (at_ : Int) (w : World) (R : Value → World → Prop) : Eng.R Try.prog ⟨cal, S31_nx⟩ 28 S31_ann [] (Try.f31.body.getD .skip) (bodyQ Try.prog #[.tmp 4, .tmp 5] R) (argE [(.pointer n_), (.int .i64 at_)]) w = S31 n_ at_ w R := by kernel_rfl
/-- A call of '(*carfax/net.Net).Take', by its condition. -/
theorem S31_calls {n_ : Option Addr} {at_ : Int} {w : World} {R : Value → World → Prop} (hS : S31 n_ at_ w R) : Ret Try.prog 31 [(.pointer n_), (.int .i64 at_)] w R :=
  R_calls (C := ⟨cal, S31_nx⟩) cal_ok follows Try.func31 (c := Try.f31.body.getD .skip) (res := #[.tmp 4, .tmp 5]) (n := 28) (by kernel_rfl) (by kernel_rfl) (by kernel_rfl) (by kernel_rfl) ((S31_eq n_ at_ w R).mpr hS)

def S32_ann (p : List Nat) : Option LA :=
  none

def S32_nx (t : Nat) : Option (TypeId × TypeId) := none

def S32_k1 (n_ : Option Addr) (at_ : Int) (w : World) (R : Value → World → Prop) : Prop :=
  ∃ (t18 : Addr),
  n_ = some t18 ∧
  ∃ (t20_a : Option Addr) (t20_l : Nat) (t20_c : Nat),
  w.cell? t18 = some (.slice t20_a t20_l t20_c) ∧
  ∃ (t22 : Addr),
  t20_a = some t22 ∧
  0 ≤ (at_ : Int) ∧
  (at_ : Int) < ((t20_l : Nat) : Int) ∧
  ∃ (t23_a : Option Addr) (t23_l : Nat) (t23_c : Nat),
  w.cell? (t22.add (Int.toNat at_ * 1)) = some (.slice t23_a t23_l t23_c) ∧
  Calls Try.prog 59 ⟨[(.slice t23_a t23_l t23_c)]⟩ w fun e w_ =>
    ∃ (t24_a : Option Addr) (t24_l : Nat) (t24_c : Nat),
    e = .returned (.slice t24_a t24_l t24_c) ∧
    R (.tuple ⟨[(.slice t24_a t24_l t24_c), (.bool true)]⟩) w_

def S32_k0 (n_ : Option Addr) (at_ : Int) (t16 : Bool) (w : World) (R : Value → World → Prop) : Prop :=
  cond t16 (
    R (.tuple ⟨[(.slice none 0 0), (.bool false)]⟩) w
  ) (
    S32_k1 n_ at_ w R
  )

def S32 (n_ : Option Addr) (at_ : Int) (w : World) (R : Value → World → Prop) : Prop :=
  cond (Option.isNone n_) (
    S32_k0 n_ at_ true w R
  ) (
    ∃ (t10 : Addr),
    n_ = some t10 ∧
    ∃ (t12_a : Option Addr) (t12_l : Nat) (t12_c : Nat),
    w.cell? t10 = some (.slice t12_a t12_l t12_c) ∧
    Calls Try.prog 63 ⟨[(.slice t12_a t12_l t12_c), (.int .i64 at_)]⟩ w fun e w_ =>
      ∃ (t14 : Bool),
      e = .returned (.bool t14) ∧
      S32_k0 n_ at_ (!t14) w_ R
  )

theorem S32_eq (n_ : Option Addr) (at_ : Int) (w : World) (R : Value → World → Prop) : Eng.R Try.prog ⟨cal, S32_nx⟩ 25 S32_ann [] (Try.f32.body.getD .skip) (bodyQ Try.prog #[.tmp 4, .tmp 5] R) (argE [(.pointer n_), (.int .i64 at_)]) w = S32 n_ at_ w R := by kernel_rfl
/-- A call of '(*carfax/net.Net).Peek', by its condition. -/
theorem S32_calls {n_ : Option Addr} {at_ : Int} {w : World} {R : Value → World → Prop} (hS : S32 n_ at_ w R) : Ret Try.prog 32 [(.pointer n_), (.int .i64 at_)] w R :=
  R_calls (C := ⟨cal, S32_nx⟩) cal_ok follows Try.func32 (c := Try.f32.body.getD .skip) (res := #[.tmp 4, .tmp 5]) (n := 25) (by kernel_rfl) (by kernel_rfl) (by kernel_rfl) (by kernel_rfl) ((S32_eq n_ at_ w R).mpr hS)

def S33_ann (p : List Nat) : Option LA :=
  none

def S33_nx (t : Nat) : Option (TypeId × TypeId) := none

def S33 (n_ : Option Addr) (at_ : Int) (w : World) (R : Value → World → Prop) : Prop :=
  Calls Try.prog 31 ⟨[(.pointer n_), (.int .i64 at_)]⟩ w fun e w_ =>
    ∃ (t10_0_a : Option Addr) (t10_0_l : Nat) (t10_0_c : Nat) (t10_1 : Bool),
    e = .returned (.tuple ⟨[(.slice t10_0_a t10_0_l t10_0_c), (.bool t10_1)]⟩) ∧
    R (.bool t10_1) w_

theorem S33_eq (n_ : Option Addr) (at_ : Int) (w : World) (R : Value → World → Prop) : Eng.R Try.prog ⟨cal, S33_nx⟩ 14 S33_ann [] (Try.f33.body.getD .skip) (bodyQ Try.prog #[.tmp 4] R) (argE [(.pointer n_), (.int .i64 at_)]) w = S33 n_ at_ w R := by kernel_rfl
/-- A call of '(*carfax/net.Net).Lose', by its condition. -/
theorem S33_calls {n_ : Option Addr} {at_ : Int} {w : World} {R : Value → World → Prop} (hS : S33 n_ at_ w R) : Ret Try.prog 33 [(.pointer n_), (.int .i64 at_)] w R :=
  R_calls (C := ⟨cal, S33_nx⟩) cal_ok follows Try.func33 (c := Try.f33.body.getD .skip) (res := #[.tmp 4]) (n := 14) (by kernel_rfl) (by kernel_rfl) (by kernel_rfl) (by kernel_rfl) ((S33_eq n_ at_ w R).mpr hS)

def S34_ann (p : List Nat) : Option LA :=
  none

def S34_nx (t : Nat) : Option (TypeId × TypeId) := none

def S34_k1 (r : Option Addr) (t2 : Addr) (w : World) (R : Value → World → Prop) : Prop :=
  ∃ (t15 : Addr),
  r = some t15 ∧
  ∃ (t17 : Option Addr),
  w.cell? (t15.add 5) = some (.pointer t17) ∧
  ∃ (t18 : Addr),
  t17 = some t18 ∧
  ∃ (t19_0 : Int),
  w.cell? t18 = some (.int .u8 t19_0) ∧
  ∃ (t19_1 : Int),
  w.cell? (t18.add 1) = some (.int .i64 t19_1) ∧
  ∃ (t19_2 : Int),
  w.cell? (t18.add 2) = some (.int .i64 t19_2) ∧
  (∃ u, w.cell? t2 = some u) ∧
  w.frozen? t2 = false ∧
  (∃ u, (w.setCell t2 (.int .u8 t19_0)).cell? (t2.add 1) = some u) ∧
  (w.setCell t2 (.int .u8 t19_0)).frozen? (t2.add 1) = false ∧
  (∃ u, ((w.setCell t2 (.int .u8 t19_0)).setCell (t2.add 1) (.int .i64 t19_1)).cell? (t2.add 2) = some u) ∧
  ((w.setCell t2 (.int .u8 t19_0)).setCell (t2.add 1) (.int .i64 t19_1)).frozen? (t2.add 2) = false ∧
  ∃ (t2_0 : Int),
  (((w.setCell t2 (.int .u8 t19_0)).setCell (t2.add 1) (.int .i64 t19_1)).setCell (t2.add 2) (.int .i64 t19_2)).cell? t2 = some (.int .u8 t2_0) ∧
  ∃ (t2_1 : Int),
  (((w.setCell t2 (.int .u8 t19_0)).setCell (t2.add 1) (.int .i64 t19_1)).setCell (t2.add 2) (.int .i64 t19_2)).cell? (t2.add 1) = some (.int .i64 t2_1) ∧
  ∃ (t2_2 : Int),
  (((w.setCell t2 (.int .u8 t19_0)).setCell (t2.add 1) (.int .i64 t19_1)).setCell (t2.add 2) (.int .i64 t19_2)).cell? (t2.add 2) = some (.int .i64 t2_2) ∧
  R (.tuple ⟨[(.agg ⟨[(.int .u8 t2_0), (.int .i64 t2_1), (.int .i64 t2_2)]⟩), (.bool true)]⟩) (((w.setCell t2 (.int .u8 t19_0)).setCell (t2.add 1) (.int .i64 t19_1)).setCell (t2.add 2) (.int .i64 t19_2))

def S34_k0 (r : Option Addr) (t2 : Addr) (t12 : Bool) (w : World) (R : Value → World → Prop) : Prop :=
  cond t12 (
    (∃ u, w.cell? t2 = some u) ∧
    w.frozen? t2 = false ∧
    (∃ u, (w.setCell t2 (.int .u8 0)).cell? (t2.add 1) = some u) ∧
    (w.setCell t2 (.int .u8 0)).frozen? (t2.add 1) = false ∧
    (∃ u, ((w.setCell t2 (.int .u8 0)).setCell (t2.add 1) (.int .i64 0)).cell? (t2.add 2) = some u) ∧
    ((w.setCell t2 (.int .u8 0)).setCell (t2.add 1) (.int .i64 0)).frozen? (t2.add 2) = false ∧
    ∃ (t2_0 : Int),
    (((w.setCell t2 (.int .u8 0)).setCell (t2.add 1) (.int .i64 0)).setCell (t2.add 2) (.int .i64 0)).cell? t2 = some (.int .u8 t2_0) ∧
    ∃ (t2_1 : Int),
    (((w.setCell t2 (.int .u8 0)).setCell (t2.add 1) (.int .i64 0)).setCell (t2.add 2) (.int .i64 0)).cell? (t2.add 1) = some (.int .i64 t2_1) ∧
    ∃ (t2_2 : Int),
    (((w.setCell t2 (.int .u8 0)).setCell (t2.add 1) (.int .i64 0)).setCell (t2.add 2) (.int .i64 0)).cell? (t2.add 2) = some (.int .i64 t2_2) ∧
    R (.tuple ⟨[(.agg ⟨[(.int .u8 t2_0), (.int .i64 t2_1), (.int .i64 t2_2)]⟩), (.bool false)]⟩) (((w.setCell t2 (.int .u8 0)).setCell (t2.add 1) (.int .i64 0)).setCell (t2.add 2) (.int .i64 0))
  ) (
    S34_k1 r t2 w R
  )

def S34 (r : Option Addr) (w : World) (R : Value → World → Prop) : Prop :=
  cond (Option.isNone r) (
    S34_k0 r ⟨w.heap.size, 0, none⟩ true (w.alloc (.cells ⟨[(.int .u8 0), (.int .i64 0), (.int .i64 0)]⟩ 67)) R
  ) (
    ∃ (t8 : Addr),
    r = some t8 ∧
    ∃ (t10 : Option Addr),
    (w.alloc (.cells ⟨[(.int .u8 0), (.int .i64 0), (.int .i64 0)]⟩ 67)).cell? (t8.add 5) = some (.pointer t10) ∧
    S34_k0 r ⟨w.heap.size, 0, none⟩ (Option.isNone t10) (w.alloc (.cells ⟨[(.int .u8 0), (.int .i64 0), (.int .i64 0)]⟩ 67)) R
  )

theorem S34_eq (r : Option Addr) (w : World) (R : Value → World → Prop) : Eng.R Try.prog ⟨cal, S34_nx⟩ 20 S34_ann [] (Try.f34.body.getD .skip) (bodyQ Try.prog #[.cell 2 67, .tmp 3] R) (argE [(.pointer r)]) w = S34 r w R := by kernel_rfl
/-- A call of '(*carfax/robot.Robot).Next', by its condition. -/
theorem S34_calls {r : Option Addr} {w : World} {R : Value → World → Prop} (hS : S34 r w R) : Ret Try.prog 34 [(.pointer r)] w R :=
  R_calls (C := ⟨cal, S34_nx⟩) cal_ok follows Try.func34 (c := Try.f34.body.getD .skip) (res := #[.cell 2 67, .tmp 3]) (n := 20) (by kernel_rfl) (by kernel_rfl) (by kernel_rfl) (by kernel_rfl) ((S34_eq r w R).mpr hS)

def S35_ann (p : List Nat) : Option LA :=
  none

def S35_nx (t : Nat) : Option (TypeId × TypeId) := none

def S35_k3 (r : Option Addr) (w : World) (R : Value → World → Prop) : Prop :=
  ∃ (t87 : Addr),
  r = some t87 ∧
  (∃ u, w.cell? (t87.add 5) = some u) ∧
  w.frozen? (t87.add 5) = false ∧
  ∃ (t90 : Addr),
  r = some t90 ∧
  ∃ (t92 : Int),
  (w.setCell (t87.add 5) (.pointer none)).cell? (t90.add 6) = some (.int .u64 t92) ∧
  ∃ (t94 : Addr),
  r = some t94 ∧
  (∃ u, (w.setCell (t87.add 5) (.pointer none)).cell? (t94.add 6) = some u) ∧
  (w.setCell (t87.add 5) (.pointer none)).frozen? (t94.add 6) = false ∧
  ∃ (t97 : Addr),
  r = some t97 ∧
  ∃ (t99 : Option Addr),
  ((w.setCell (t87.add 5) (.pointer none)).setCell (t94.add 6) (.int .u64 (IntKind.u64.wrap (t92 + 1)))).cell? (t97.add 8) = some (.pointer t99) ∧
  Calls Try.prog 30 ⟨[(.pointer t99), (.slice none 0 0)]⟩ ((w.setCell (t87.add 5) (.pointer none)).setCell (t94.add 6) (.int .u64 (IntKind.u64.wrap (t92 + 1)))) fun e w_ =>
    ∃ (t100 : Int),
    e = .returned (.int .i64 t100) ∧
    R (.bool true) w_

def S35_k2 (r : Option Addr) (t78 : Bool) (w : World) (R : Value → World → Prop) : Prop :=
  cond t78 (
    ∃ (t81 : Addr),
    r = some t81 ∧
    ∃ (t83 : Int),
    w.cell? (t81.add 3) = some (.int .i64 t83) ∧
    ∃ (t84 : Addr),
    r = some t84 ∧
    (∃ u, w.cell? (t84.add 4) = some u) ∧
    w.frozen? (t84.add 4) = false ∧
    S35_k3 r (w.setCell (t84.add 4) (.int .i64 t83)) R
  ) (
    S35_k3 r w R
  )

def S35_k1 (r : Option Addr) (t13 : Bool) (w : World) (R : Value → World → Prop) : Prop :=
  cond t13 (
    ∃ (t30 : Addr),
    r = some t30 ∧
    ∃ (t32 : Int),
    w.cell? (t30.add 4) = some (.int .i64 t32) ∧
    cond (decide ((0 : Int) < t32)) (
      ∃ (t35 : Addr),
      r = some t35 ∧
      ∃ (t37 : Int),
      w.cell? (t35.add 4) = some (.int .i64 t37) ∧
      ∃ (t39 : Addr),
      r = some t39 ∧
      (∃ u, w.cell? (t39.add 4) = some u) ∧
      w.frozen? (t39.add 4) = false ∧
      ∃ (t43 : Addr),
      r = some t43 ∧
      ∃ (t45 : Option Addr),
      (w.setCell (t39.add 4) (.int .i64 (IntKind.i64.wrap (t37 - 1)))).cell? (t43.add 5) = some (.pointer t45) ∧
      ∃ (t46 : Addr),
      t45 = some t46 ∧
      ∃ (t48 : Int),
      (w.setCell (t39.add 4) (.int .i64 (IntKind.i64.wrap (t37 - 1)))).cell? (t46.add 1) = some (.int .i64 t48) ∧
      ∃ (t49 : Addr),
      r = some t49 ∧
      (∃ u, (w.setCell (t39.add 4) (.int .i64 (IntKind.i64.wrap (t37 - 1)))).cell? (t49.add 2) = some u) ∧
      (w.setCell (t39.add 4) (.int .i64 (IntKind.i64.wrap (t37 - 1)))).frozen? (t49.add 2) = false ∧
      R (.bool false) ((w.setCell (t39.add 4) (.int .i64 (IntKind.i64.wrap (t37 - 1)))).setCell (t49.add 2) (.int .i64 t48))
    ) (
      R (.bool false) w
    )
  ) (
    ∃ (t53 : Addr),
    r = some t53 ∧
    ∃ (t55 : Option Addr),
    w.cell? (t53.add 5) = some (.pointer t55) ∧
    ∃ (t56 : Addr),
    t55 = some t56 ∧
    ∃ (t58 : Int),
    w.cell? t56 = some (.int .u8 t58) ∧
    cond (decide ((t58 : Int) = 1)) (
      ∃ (t63 : Addr),
      r = some t63 ∧
      ∃ (t65 : Int),
      w.cell? (t63.add 2) = some (.int .i64 t65) ∧
      ∃ (t66 : Addr),
      r = some t66 ∧
      (∃ u, w.cell? (t66.add 1) = some u) ∧
      w.frozen? (t66.add 1) = false ∧
      ∃ (t68 : Addr),
      r = some t68 ∧
      (∃ u, (w.setCell (t66.add 1) (.int .i64 t65)).cell? (t68.add 2) = some u) ∧
      (w.setCell (t66.add 1) (.int .i64 t65)).frozen? (t68.add 2) = false ∧
      ∃ (t71 : Addr),
      r = some t71 ∧
      ∃ (t75 : Addr),
      r = some t75 ∧
      ∃ (t73 : Int),
      ((w.setCell (t66.add 1) (.int .i64 t65)).setCell (t68.add 2) (.int .i64 (-1))).drew.cell? (t71.add 1) = some (.int .i64 t73) ∧
      ∃ (t77 : Int),
      ((w.setCell (t66.add 1) (.int .i64 t65)).setCell (t68.add 2) (.int .i64 (-1))).drew.cell? t75 = some (.int .i64 t77) ∧
      S35_k2 r (decide ((t73 : Int) = t77)) ((w.setCell (t66.add 1) (.int .i64 t65)).setCell (t68.add 2) (.int .i64 (-1))).drew R
    ) (
      S35_k3 r w R
    )
  )

def S35_k0 (r : Option Addr) (t3 : Bool) (w : World) (R : Value → World → Prop) : Prop :=
  cond t3 (
    R (.bool false) w
  ) (
    ∃ (t15 : Addr),
    r = some t15 ∧
    ∃ (t17 : Option Addr),
    w.cell? (t15.add 5) = some (.pointer t17) ∧
    ∃ (t18 : Addr),
    t17 = some t18 ∧
    ∃ (t20 : Int),
    w.cell? t18 = some (.int .u8 t20) ∧
    cond (decide ((t20 : Int) = 1)) (
      ∃ (t24 : Addr),
      r = some t24 ∧
      ∃ (t26 : Int),
      w.cell? (t24.add 2) = some (.int .i64 t26) ∧
      S35_k1 r (decide ((t26 : Int) = (-1))) w R
    ) (
      S35_k1 r false w R
    )
  )

def S35 (r : Option Addr) (w : World) (R : Value → World → Prop) : Prop :=
  cond (Option.isNone r) (
    S35_k0 r true w R
  ) (
    ∃ (t8 : Addr),
    r = some t8 ∧
    ∃ (t10 : Option Addr),
    w.cell? (t8.add 5) = some (.pointer t10) ∧
    S35_k0 r (Option.isNone t10) w R
  )

theorem S35_eq (r : Option Addr) (w : World) (R : Value → World → Prop) : Eng.R Try.prog ⟨cal, S35_nx⟩ 101 S35_ann [] (Try.f35.body.getD .skip) (bodyQ Try.prog #[.tmp 2] R) (argE [(.pointer r)]) w = S35 r w R := by kernel_rfl
/-- A call of '(*carfax/robot.Robot).Step', by its condition. -/
theorem S35_calls {r : Option Addr} {w : World} {R : Value → World → Prop} (hS : S35 r w R) : Ret Try.prog 35 [(.pointer r)] w R :=
  R_calls (C := ⟨cal, S35_nx⟩) cal_ok follows Try.func35 (c := Try.f35.body.getD .skip) (res := #[.tmp 2]) (n := 101) (by kernel_rfl) (by kernel_rfl) (by kernel_rfl) (by kernel_rfl) ((S35_eq r w R).mpr hS)

def S36_ann (p : List Nat) : Option LA :=
  none

def S36_nx (t : Nat) : Option (TypeId × TypeId) := none

def S36_k0 (r : Option Addr) (w : World) (R : Value → World → Prop) : Prop :=
  ∃ (t7 : Addr),
  r = some t7 ∧
  ∃ (t9 : Option Addr),
  w.cell? (t7.add 8) = some (.pointer t9) ∧
  Calls Try.prog 28 ⟨[(.pointer t9)]⟩ w fun e w_ =>
    ∃ (t10_0_a : Option Addr) (t10_0_l : Nat) (t10_0_c : Nat) (t10_1 : Bool),
    e = .returned (.tuple ⟨[(.slice t10_0_a t10_0_l t10_0_c), (.bool t10_1)]⟩) ∧
    R (.tuple ⟨[(.slice t10_0_a t10_0_l t10_0_c), (.bool t10_1)]⟩) w_

def S36 (r : Option Addr) (w : World) (R : Value → World → Prop) : Prop :=
  cond (Option.isNone r) (
    R (.tuple ⟨[(.slice none 0 0), (.bool false)]⟩) w
  ) (
    S36_k0 r w R
  )

theorem S36_eq (r : Option Addr) (w : World) (R : Value → World → Prop) : Eng.R Try.prog ⟨cal, S36_nx⟩ 13 S36_ann [] (Try.f36.body.getD .skip) (bodyQ Try.prog #[.tmp 2, .tmp 3] R) (argE [(.pointer r)]) w = S36 r w R := by kernel_rfl
/-- A call of '(*carfax/robot.Robot).Packet', by its condition. -/
theorem S36_calls {r : Option Addr} {w : World} {R : Value → World → Prop} (hS : S36 r w R) : Ret Try.prog 36 [(.pointer r)] w R :=
  R_calls (C := ⟨cal, S36_nx⟩) cal_ok follows Try.func36 (c := Try.f36.body.getD .skip) (res := #[.tmp 2, .tmp 3]) (n := 13) (by kernel_rfl) (by kernel_rfl) (by kernel_rfl) (by kernel_rfl) ((S36_eq r w R).mpr hS)

def S37_ann (p : List Nat) : Option LA :=
  none

def S37_nx (t : Nat) : Option (TypeId × TypeId) := none

def S37_k0 (r : Option Addr) (w : World) (R : Value → World → Prop) : Prop :=
  ∃ (t6 : Addr),
  r = some t6 ∧
  ∃ (t8 : Int),
  w.cell? (t6.add 6) = some (.int .u64 t8) ∧
  R (.int .u64 t8) w

def S37 (r : Option Addr) (w : World) (R : Value → World → Prop) : Prop :=
  cond (Option.isNone r) (
    R (.int .u64 0) w
  ) (
    S37_k0 r w R
  )

theorem S37_eq (r : Option Addr) (w : World) (R : Value → World → Prop) : Eng.R Try.prog ⟨cal, S37_nx⟩ 9 S37_ann [] (Try.f37.body.getD .skip) (bodyQ Try.prog #[.tmp 2] R) (argE [(.pointer r)]) w = S37 r w R := by kernel_rfl
/-- A call of '(*carfax/robot.Robot).Done', by its condition. -/
theorem S37_calls {r : Option Addr} {w : World} {R : Value → World → Prop} (hS : S37 r w R) : Ret Try.prog 37 [(.pointer r)] w R :=
  R_calls (C := ⟨cal, S37_nx⟩) cal_ok follows Try.func37 (c := Try.f37.body.getD .skip) (res := #[.tmp 2]) (n := 9) (by kernel_rfl) (by kernel_rfl) (by kernel_rfl) (by kernel_rfl) ((S37_eq r w R).mpr hS)

def S38_ann (p : List Nat) : Option LA :=
  none

def S38_nx (t : Nat) : Option (TypeId × TypeId) := none

def S38_k0 (d : Option Addr) (w : World) (R : Value → World → Prop) : Prop :=
  ∃ (t14 : Addr),
  d = some t14 ∧
  ∃ (t16_a : Option Addr) (t16_l : Nat) (t16_c : Nat),
  w.cell? t14 = some (.slice t16_a t16_l t16_c) ∧
  ∃ (t18_a : Option Addr) (t18_l : Nat) (t18_c : Nat) (w_ : World),
  (Instr.makeSlice 36 (.int .i64 ((t16_l : Nat) : Int)) (.int .i64 ((t16_l : Nat) : Int))).run Try.prog w = .ok (.slice t18_a t18_l t18_c) w_ ∧
  ∃ (t21 : Addr),
  d = some t21 ∧
  ∃ (t23_a : Option Addr) (t23_l : Nat) (t23_c : Nat),
  w_.cell? t21 = some (.slice t23_a t23_l t23_c) ∧
  ∃ (t24 : Int) (w__1 : World),
  (Builtin.copy_ #[36, 36] 3 ⟨[(.slice t18_a t18_l t18_c), (.slice t23_a t23_l t23_c)]⟩).run Try.prog w_ = .ok (.int .i64 t24) w__1 ∧
  R (.tuple ⟨[(.slice t18_a t18_l t18_c), (.int .i64 0)]⟩) w__1

def S38 (d : Option Addr) (w : World) (R : Value → World → Prop) : Prop :=
  cond (Option.isNone d) (
    R (.tuple ⟨[(.slice none 0 0), (.int .i64 2)]⟩) w
  ) (
    ∃ (t10 : Addr),
    d = some t10 ∧
    ∃ (t12 : Bool),
    w.cell? (t10.add 2) = some (.bool t12) ∧
    cond t12 (
      R (.tuple ⟨[(.slice none 0 0), (.int .i64 5)]⟩) w
    ) (
      S38_k0 d w R
    )
  )

theorem S38_eq (d : Option Addr) (w : World) (R : Value → World → Prop) : Eng.R Try.prog ⟨cal, S38_nx⟩ 26 S38_ann [] (Try.f38.body.getD .skip) (bodyQ Try.prog #[.tmp 2, .tmp 3] R) (argE [(.pointer d)]) w = S38 d w R := by kernel_rfl
/-- A call of '(*carfax/disk.Disk).Read', by its condition. -/
theorem S38_calls {d : Option Addr} {w : World} {R : Value → World → Prop} (hS : S38 d w R) : Ret Try.prog 38 [(.pointer d)] w R :=
  R_calls (C := ⟨cal, S38_nx⟩) cal_ok follows Try.func38 (c := Try.f38.body.getD .skip) (res := #[.tmp 2, .tmp 3]) (n := 26) (by kernel_rfl) (by kernel_rfl) (by kernel_rfl) (by kernel_rfl) ((S38_eq d w R).mpr hS)

def S39_ann (p : List Nat) : Option LA := match p with
  | [0, 1, 0, 1, 1, 1] => some ⟨[0], [(4, .one .slice), (5, .one .slice), (6, .one (.int .i64))]⟩
  | _ => none

def S39_nx (t : Nat) : Option (TypeId × TypeId) := none

def S39_k1 (b_a : Option Addr) (b_l : Nat) (b_c : Nat) (out_a : Option Addr) (out_l : Nat) (out_c : Nat) (rest_a : Option Addr) (rest_l : Nat) (rest_c : Nat) (n_ : Int) (w : World) (R : Value → World → Prop) (B1 : (Option Addr × Nat × Nat) × (Option Addr × Nat × Nat) × (Int) × Unit → World → Prop) : Prop :=
  0 ≤ ((IntKind.i64.wrap (n_ - 2)) : Int) ∧
  ((IntKind.i64.wrap (n_ - 2)) : Int) ≤ ((rest_c : Nat) : Int) ∧
  0 ≤ ((IntKind.i64.wrap (n_ - 2)) : Int) ∧
  ((IntKind.i64.wrap (n_ - 2)) : Int) ≤ (((Int.toNat (IntKind.i64.wrap (n_ - 2))) : Nat) : Int) ∧
  0 ≤ (2 : Int) ∧
  (2 : Int) ≤ (((Int.toNat (IntKind.i64.wrap (n_ - 2))) : Nat) : Int) ∧
  ∃ (t21_a : Option Addr) (t21_l : Nat) (t21_c : Nat) (w_ : World),
  (Builtin.append_ #[36, 36] 36 ⟨[(.slice none 0 0), (.slice (slAddr rest_a (Int.toNat (IntKind.i64.wrap (n_ - 2))) (Int.toNat 2) 1) ((Int.toNat (IntKind.i64.wrap (n_ - 2))) - (Int.toNat 2)) ((Int.toNat (IntKind.i64.wrap (n_ - 2))) - (Int.toNat 2)))]⟩).run Try.prog w = .ok (.slice t21_a t21_l t21_c) w_ ∧
  ∃ (t23_a : Option Addr) (t23_l : Nat) (t23_c : Nat) (w__1 : World),
  (Builtin.append_ #[26, 26] 26 ⟨[(.slice out_a out_l out_c), (.slice (some ⟨w_.heap.size, 0, none⟩) 1 1)]⟩).run Try.prog (w_.alloc (.cells ⟨[(.slice t21_a t21_l t21_c)]⟩ 36)) = .ok (.slice t23_a t23_l t23_c) w__1 ∧
  0 ≤ (n_ : Int) ∧
  (n_ : Int) ≤ ((rest_l : Nat) : Int) ∧
  Calls Try.prog 64 ⟨[(.slice (slAddr rest_a rest_c (Int.toNat n_) 1) (rest_l - (Int.toNat n_)) (rest_c - (Int.toNat n_)))]⟩ w__1 fun e w__2 =>
    ∃ (t13 : Int),
    e = .returned (.int .i64 t13) ∧
    B1 ((t23_a, t23_l, t23_c), ((slAddr rest_a rest_c (Int.toNat n_) 1), (rest_l - (Int.toNat n_)), (rest_c - (Int.toNat n_))), t13, ()) w__2

def S39_k2 (b_a : Option Addr) (b_l : Nat) (b_c : Nat) (out_a : Option Addr) (out_l : Nat) (out_c : Nat) (rest_a : Option Addr) (rest_l : Nat) (rest_c : Nat) (w : World) (R : Value → World → Prop) : Prop :=
  R (.tuple ⟨[(.slice out_a out_l out_c), (.int .i64 (IntKind.i64.wrap (((b_l : Nat) : Int) - ((rest_l : Nat) : Int))))]⟩) w

def S39_L0 (b_a : Option Addr) (b_l : Nat) (b_c : Nat) (out_a : Option Addr) (out_l : Nat) (out_c : Nat) (rest_a : Option Addr) (rest_l : Nat) (rest_c : Nat) (n_ : Int) (w : World) (R : Value → World → Prop) (B1 : (Option Addr × Nat × Nat) × (Option Addr × Nat × Nat) × (Int) × Unit → World → Prop) : Prop :=
  cond (decide ((0 : Int) < n_)) (
    S39_k1 b_a b_l b_c out_a out_l out_c rest_a rest_l rest_c n_ w R B1
  ) (
    S39_k2 b_a b_l b_c out_a out_l out_c rest_a rest_l rest_c w R
  )

def S39 (b_a : Option Addr) (b_l : Nat) (b_c : Nat) (w : World) (R : Value → World → Prop) : Prop :=
  Calls Try.prog 64 ⟨[(.slice b_a b_l b_c)]⟩ w fun e w_ =>
    ∃ (t9 : Int),
    e = .returned (.int .i64 t9) ∧
    ∃ (I : (Option Addr × Nat × Nat) × (Option Addr × Nat × Nat) × (Int) × Unit → World → Prop) (μ : (Option Addr × Nat × Nat) × (Option Addr × Nat × Nat) × (Int) × Unit → World → Nat),
    I ((none, 0, 0), (b_a, b_l, b_c), t9, ()) w_ ∧
    ∀ (J : Env) (s : (Option Addr × Nat × Nat) × (Option Addr × Nat × Nat) × (Int) × Unit) (w' : World), I s w' →
      S39_L0 b_a b_l b_c s.1.1 s.1.2.1 s.1.2.2 s.2.1.1 s.2.1.2.1 s.2.1.2.2 s.2.2.1 w' R (fun s' w'' => I s' w'' ∧ μ s' w'' < μ s w')

theorem S39_eq (b_a : Option Addr) (b_l : Nat) (b_c : Nat) (w : World) (R : Value → World → Prop) : Eng.R Try.prog ⟨cal, S39_nx⟩ 33 S39_ann [] (Try.f39.body.getD .skip) (bodyQ Try.prog #[.tmp 2, .tmp 3] R) (argE [(.slice b_a b_l b_c)]) w = S39 b_a b_l b_c w R := by kernel_rfl
/-- A call of 'carfax/check.Scan', by its condition. -/
theorem S39_calls {b_a : Option Addr} {b_l : Nat} {b_c : Nat} {w : World} {R : Value → World → Prop} (hS : S39 b_a b_l b_c w R) : Ret Try.prog 39 [(.slice b_a b_l b_c)] w R :=
  R_calls (C := ⟨cal, S39_nx⟩) cal_ok follows Try.func39 (c := Try.f39.body.getD .skip) (res := #[.tmp 2, .tmp 3]) (n := 33) (by kernel_rfl) (by kernel_rfl) (by kernel_rfl) (by kernel_rfl) ((S39_eq b_a b_l b_c w R).mpr hS)

def S40_ann (p : List Nat) : Option LA :=
  none

def S40_nx (t : Nat) : Option (TypeId × TypeId) := none

def S40_k2 (d : Option Addr) (n_ : Int) (w : World) (R : Value → World → Prop) : Prop :=
  ∃ (t25 : Addr),
  d = some t25 ∧
  ∃ (t27_a : Option Addr) (t27_l : Nat) (t27_c : Nat),
  w.cell? t25 = some (.slice t27_a t27_l t27_c) ∧
  0 ≤ (n_ : Int) ∧
  (n_ : Int) ≤ ((t27_c : Nat) : Int) ∧
  ∃ (t31 : Addr),
  d = some t31 ∧
  (∃ u, w.cell? t31 = some u) ∧
  w.frozen? t31 = false ∧
  ∃ (t33 : Addr),
  d = some t33 ∧
  (∃ u, (w.setCell t31 (.slice (slAddr t27_a t27_c 0 1) ((Int.toNat n_) - 0) (t27_c - 0))).cell? (t33.add 1) = some u) ∧
  (w.setCell t31 (.slice (slAddr t27_a t27_c 0 1) ((Int.toNat n_) - 0) (t27_c - 0))).frozen? (t33.add 1) = false ∧
  R (.int .i64 0) ((w.setCell t31 (.slice (slAddr t27_a t27_c 0 1) ((Int.toNat n_) - 0) (t27_c - 0))).setCell (t33.add 1) (.int .i64 n_))

def S40_k1 (d : Option Addr) (n_ : Int) (t21 : Bool) (w : World) (R : Value → World → Prop) : Prop :=
  cond t21 (
    R (.int .i64 1) w
  ) (
    S40_k2 d n_ w R
  )

def S40_k0 (d : Option Addr) (n_ : Int) (w : World) (R : Value → World → Prop) : Prop :=
  cond (decide ((n_ : Int) < 0)) (
    S40_k1 d n_ true w R
  ) (
    ∃ (t16 : Addr),
    d = some t16 ∧
    ∃ (t18_a : Option Addr) (t18_l : Nat) (t18_c : Nat),
    w.cell? t16 = some (.slice t18_a t18_l t18_c) ∧
    S40_k1 d n_ (decide ((((t18_l : Nat) : Int) : Int) < n_)) w R
  )

def S40 (d : Option Addr) (n_ : Int) (w : World) (R : Value → World → Prop) : Prop :=
  Calls Try.prog 65 ⟨[(.pointer d)]⟩ w fun e w_ =>
    ∃ (t7 : Int),
    e = .returned (.int .i64 t7) ∧
    cond (!decide ((t7 : Int) = 0)) (
      R (.int .i64 t7) w_
    ) (
      S40_k0 d n_ w_ R
    )

theorem S40_eq (d : Option Addr) (n_ : Int) (w : World) (R : Value → World → Prop) : Eng.R Try.prog ⟨cal, S40_nx⟩ 35 S40_ann [] (Try.f40.body.getD .skip) (bodyQ Try.prog #[.tmp 4] R) (argE [(.pointer d), (.int .i64 n_)]) w = S40 d n_ w R := by kernel_rfl
/-- A call of '(*carfax/disk.Disk).Cutoff', by its condition. -/
theorem S40_calls {d : Option Addr} {n_ : Int} {w : World} {R : Value → World → Prop} (hS : S40 d n_ w R) : Ret Try.prog 40 [(.pointer d), (.int .i64 n_)] w R :=
  R_calls (C := ⟨cal, S40_nx⟩) cal_ok follows Try.func40 (c := Try.f40.body.getD .skip) (res := #[.tmp 4]) (n := 35) (by kernel_rfl) (by kernel_rfl) (by kernel_rfl) (by kernel_rfl) ((S40_eq d n_ w R).mpr hS)

def S41_ann (p : List Nat) : Option LA :=
  none

def S41_nx (t : Nat) : Option (TypeId × TypeId) := none

def S41_k0 (d : Option Addr) (w : World) (R : Value → World → Prop) : Prop :=
  ∃ (t11 : Addr),
  d = some t11 ∧
  ∃ (t13_a : Option Addr) (t13_l : Nat) (t13_c : Nat),
  w.cell? t11 = some (.slice t13_a t13_l t13_c) ∧
  ∃ (t15 : Addr),
  d = some t15 ∧
  (∃ u, w.cell? (t15.add 1) = some u) ∧
  w.frozen? (t15.add 1) = false ∧
  R (.int .i64 0) (w.setCell (t15.add 1) (.int .i64 ((t13_l : Nat) : Int)))

def S41 (d : Option Addr) (w : World) (R : Value → World → Prop) : Prop :=
  Calls Try.prog 65 ⟨[(.pointer d)]⟩ w fun e w_ =>
    ∃ (t5 : Int),
    e = .returned (.int .i64 t5) ∧
    cond (!decide ((t5 : Int) = 0)) (
      R (.int .i64 t5) w_
    ) (
      S41_k0 d w_ R
    )

theorem S41_eq (d : Option Addr) (w : World) (R : Value → World → Prop) : Eng.R Try.prog ⟨cal, S41_nx⟩ 17 S41_ann [] (Try.f41.body.getD .skip) (bodyQ Try.prog #[.tmp 2] R) (argE [(.pointer d)]) w = S41 d w R := by kernel_rfl
/-- A call of '(*carfax/disk.Disk).Sync', by its condition. -/
theorem S41_calls {d : Option Addr} {w : World} {R : Value → World → Prop} (hS : S41 d w R) : Ret Try.prog 41 [(.pointer d)] w R :=
  R_calls (C := ⟨cal, S41_nx⟩) cal_ok follows Try.func41 (c := Try.f41.body.getD .skip) (res := #[.tmp 2]) (n := 17) (by kernel_rfl) (by kernel_rfl) (by kernel_rfl) (by kernel_rfl) ((S41_eq d w R).mpr hS)

def S42_ann (p : List Nat) : Option LA :=
  none

def S42_nx (t : Nat) : Option (TypeId × TypeId) := none

def S42_k0 (t10 : Bool) (w : World) (R : Value → World → Prop) : Prop :=
  cond t10 (
    R (.int .i64 2) w
  ) (
    R (.int .i64 0) w
  )

def S42 (kind : Int) (w : World) (R : Value → World → Prop) : Prop :=
  cond (decide ((kind : Int) = 1)) (
    R (.int .i64 4) w
  ) (
    cond (decide ((kind : Int) = 2)) (
      R (.int .i64 1) w
    ) (
      cond (decide ((kind : Int) = 3)) (
        R (.int .i64 3) w
      ) (
        cond (decide ((kind : Int) = 4)) (
          S42_k0 (decide ((kind : Int) = 4)) w R
        ) (
          S42_k0 (decide ((kind : Int) = 5)) w R
        )
      )
    )
  )

theorem S42_eq (kind : Int) (w : World) (R : Value → World → Prop) : Eng.R Try.prog ⟨cal, S42_nx⟩ 13 S42_ann [] (Try.f42.body.getD .skip) (bodyQ Try.prog #[.tmp 2] R) (argE [(.int .u8 kind)]) w = S42 kind w R := by kernel_rfl
/-- A call of 'carfax/record.fields', by its condition. -/
theorem S42_calls {kind : Int} {w : World} {R : Value → World → Prop} (hS : S42 kind w R) : Ret Try.prog 42 [(.int .u8 kind)] w R :=
  R_calls (C := ⟨cal, S42_nx⟩) cal_ok follows Try.func42 (c := Try.f42.body.getD .skip) (res := #[.tmp 2]) (n := 13) (by kernel_rfl) (by kernel_rfl) (by kernel_rfl) (by kernel_rfl) ((S42_eq kind w R).mpr hS)

def S43_ann (p : List Nat) : Option LA :=
  none

def S43_nx (t : Nat) : Option (TypeId × TypeId) := none

def S43 (w : World) (R : Value → World → Prop) : Prop :=
  R (.pointer (some ⟨w.heap.size, 0, none⟩)) (w.alloc (.cells ⟨[(.slice none 0 0), (.int .i64 0)]⟩ 122))

theorem S43_eq (w : World) (R : Value → World → Prop) : Eng.R Try.prog ⟨cal, S43_nx⟩ 2 S43_ann [] (Try.f43.body.getD .skip) (bodyQ Try.prog #[.tmp 0] R) (argE []) w = S43  w R := by kernel_rfl
/-- A call of 'carfax/bits.NewWriter', by its condition. -/
theorem S43_calls {w : World} {R : Value → World → Prop} (hS : S43  w R) : Ret Try.prog 43 [] w R :=
  R_calls (C := ⟨cal, S43_nx⟩) cal_ok follows Try.func43 (c := Try.f43.body.getD .skip) (res := #[.tmp 0]) (n := 2) (by kernel_rfl) (by kernel_rfl) (by kernel_rfl) (by kernel_rfl) ((S43_eq  w R).mpr hS)

def S44_ann (p : List Nat) : Option LA :=
  none

def S44_nx (t : Nat) : Option (TypeId × TypeId) := none

def S44 (w_0 : Option Addr) (n_ : Int) (width : Int) (w : World) (R : Value → World → Prop) : Prop :=
  ∃ (t7 : Option Addr),
  (w.alloc (.cells ⟨[(.pointer w_0)]⟩ 93)).cell? ⟨w.heap.size, 0, none⟩ = some (.pointer t7) ∧
  Calls Try.prog 61 ⟨[(.pointer t7), (.int .u64 (IntKind.u64.wrap n_)), (.int .i64 width)]⟩ (w.alloc (.cells ⟨[(.pointer w_0)]⟩ 93)) fun e w_ =>
    ∃ (t11 : Int),
    e = .returned (.int .i64 t11) ∧
    R (.tuple ⟨[]⟩) w_

theorem S44_eq (w_0 : Option Addr) (n_ : Int) (width : Int) (w : World) (R : Value → World → Prop) : Eng.R Try.prog ⟨cal, S44_nx⟩ 12 S44_ann [] (Try.f44.body.getD .skip) (bodyQ Try.prog #[] R) (argE [(.agg ⟨[(.pointer w_0)]⟩), (.int .i64 n_), (.int .i64 width)]) w = S44 w_0 n_ width w R := by kernel_rfl
/-- A call of '(carfax/record.layer).number', by its condition. -/
theorem S44_calls {w_0 : Option Addr} {n_ : Int} {width : Int} {w : World} {R : Value → World → Prop} (hS : S44 w_0 n_ width w R) : Ret Try.prog 44 [(.agg ⟨[(.pointer w_0)]⟩), (.int .i64 n_), (.int .i64 width)] w R :=
  R_calls (C := ⟨cal, S44_nx⟩) cal_ok follows Try.func44 (c := Try.f44.body.getD .skip) (res := #[]) (n := 12) (by kernel_rfl) (by kernel_rfl) (by kernel_rfl) (by kernel_rfl) ((S44_eq w_0 n_ width w R).mpr hS)

def S45_ann (p : List Nat) : Option LA :=
  none

def S45_nx (t : Nat) : Option (TypeId × TypeId) := none

def S45_k1 (w_ : Option Addr) (n_ : Int) (size : Int) (w : World) (R : Value → World → Prop) : Prop :=
  Calls Try.prog 61 ⟨[(.pointer w_), (.int .u64 0), (.int .i64 (IntKind.i64.wrap (size - 1)))]⟩ w fun e w__1 =>
    ∃ (t27 : Int),
    e = .returned (.int .i64 t27) ∧
    Calls Try.prog 61 ⟨[(.pointer w_), (.int .u64 (IntKind.u64.wrap (n_ + 1))), (.int .i64 size)]⟩ w__1 fun e w__2 =>
      ∃ (t32 : Int),
      e = .returned (.int .i64 t32) ∧
      R (.int .i64 t32) w__2

def S45_k0 (w_ : Option Addr) (n_ : Int) (w : World) (R : Value → World → Prop) : Prop :=
  Calls Try.prog 66 ⟨[(.int .u64 (IntKind.u64.wrap (n_ + 1)))]⟩ w fun e w__1 =>
    ∃ (t14 : Int),
    e = .returned (.int .i64 t14) ∧
    ∃ (t19 : Addr),
    w_ = some t19 ∧
    ∃ (t21 : Int),
    w__1.cell? (t19.add 1) = some (.int .i64 t21) ∧
    cond (decide (((IntKind.i64.wrap (1048576 - t21)) : Int) < (IntKind.i64.wrap ((IntKind.i64.wrap (2 * t14)) - 1)))) (
      R (.int .i64 4) w__1
    ) (
      S45_k1 w_ n_ t14 w__1 R
    )

def S45 (w_ : Option Addr) (n_ : Int) (w : World) (R : Value → World → Prop) : Prop :=
  cond (Option.isNone w_) (
    R (.int .i64 2) w
  ) (
    cond (decide ((n_ : Int) = 18446744073709551615)) (
      R (.int .i64 1) w
    ) (
      S45_k0 w_ n_ w R
    )
  )

theorem S45_eq (w_ : Option Addr) (n_ : Int) (w : World) (R : Value → World → Prop) : Eng.R Try.prog ⟨cal, S45_nx⟩ 33 S45_ann [] (Try.f45.body.getD .skip) (bodyQ Try.prog #[.tmp 4] R) (argE [(.pointer w_), (.int .u64 n_)]) w = S45 w_ n_ w R := by kernel_rfl
/-- A call of '(*carfax/bits.Writer).Count', by its condition. -/
theorem S45_calls {w_ : Option Addr} {n_ : Int} {w : World} {R : Value → World → Prop} (hS : S45 w_ n_ w R) : Ret Try.prog 45 [(.pointer w_), (.int .u64 n_)] w R :=
  R_calls (C := ⟨cal, S45_nx⟩) cal_ok follows Try.func45 (c := Try.f45.body.getD .skip) (res := #[.tmp 4]) (n := 33) (by kernel_rfl) (by kernel_rfl) (by kernel_rfl) (by kernel_rfl) ((S45_eq w_ n_ w R).mpr hS)

def S46_ann (p : List Nat) : Option LA :=
  none

def S46_nx (t : Nat) : Option (TypeId × TypeId) := none

def S46_k0 (w_ : Option Addr) (w : World) (R : Value → World → Prop) : Prop :=
  ∃ (t6 : Addr),
  w_ = some t6 ∧
  ∃ (t8_a : Option Addr) (t8_l : Nat) (t8_c : Nat),
  w.cell? t6 = some (.slice t8_a t8_l t8_c) ∧
  ∃ (t9_a : Option Addr) (t9_l : Nat) (t9_c : Nat) (w__1 : World),
  (Builtin.append_ #[36, 36] 36 ⟨[(.slice none 0 0), (.slice t8_a t8_l t8_c)]⟩).run Try.prog w = .ok (.slice t9_a t9_l t9_c) w__1 ∧
  R (.slice t9_a t9_l t9_c) w__1

def S46 (w_ : Option Addr) (w : World) (R : Value → World → Prop) : Prop :=
  cond (Option.isNone w_) (
    R (.slice none 0 0) w
  ) (
    S46_k0 w_ w R
  )

theorem S46_eq (w_ : Option Addr) (w : World) (R : Value → World → Prop) : Eng.R Try.prog ⟨cal, S46_nx⟩ 10 S46_ann [] (Try.f46.body.getD .skip) (bodyQ Try.prog #[.tmp 2] R) (argE [(.pointer w_)]) w = S46 w_ w R := by kernel_rfl
/-- A call of '(*carfax/bits.Writer).Out', by its condition. -/
theorem S46_calls {w_ : Option Addr} {w : World} {R : Value → World → Prop} (hS : S46 w_ w R) : Ret Try.prog 46 [(.pointer w_)] w R :=
  R_calls (C := ⟨cal, S46_nx⟩) cal_ok follows Try.func46 (c := Try.f46.body.getD .skip) (res := #[.tmp 2]) (n := 10) (by kernel_rfl) (by kernel_rfl) (by kernel_rfl) (by kernel_rfl) ((S46_eq w_ w R).mpr hS)

def S47_ann (p : List Nat) : Option LA :=
  none

def S47_nx (t : Nat) : Option (TypeId × TypeId) := none

def S47 (n_ : Int) (width : Int) (w : World) (R : Value → World → Prop) : Prop :=
  cond (decide ((0 : Int) ≤ n_)) (
    0 ≤ (width : Int) ∧
    R (.bool (decide ((n_ : Int) < (IntKind.i64.wrap (1 * 2 ^ (min (Int.toNat width) (IntKind.i64.bits))))))) w
  ) (
    R (.bool false) w
  )

theorem S47_eq (n_ : Int) (width : Int) (w : World) (R : Value → World → Prop) : Eng.R Try.prog ⟨cal, S47_nx⟩ 13 S47_ann [] (Try.f47.body.getD .skip) (bodyQ Try.prog #[.tmp 4] R) (argE [(.int .i64 n_), (.int .i64 width)]) w = S47 n_ width w R := by kernel_rfl
/-- A call of 'carfax/record.fits', by its condition. -/
theorem S47_calls {n_ : Int} {width : Int} {w : World} {R : Value → World → Prop} (hS : S47 n_ width w R) : Ret Try.prog 47 [(.int .i64 n_), (.int .i64 width)] w R :=
  R_calls (C := ⟨cal, S47_nx⟩) cal_ok follows Try.func47 (c := Try.f47.body.getD .skip) (res := #[.tmp 4]) (n := 13) (by kernel_rfl) (by kernel_rfl) (by kernel_rfl) (by kernel_rfl) ((S47_eq n_ width w R).mpr hS)

def S48_ann (p : List Nat) : Option LA :=
  none

def S48_nx (t : Nat) : Option (TypeId × TypeId) := none

def S48_k0 (b_a : Option Addr) (b_l : Nat) (b_c : Nat) (w : World) (R : Value → World → Prop) : Prop :=
  Calls Try.prog 43 ⟨[]⟩ w fun e w_ =>
    ∃ (t10 : Option Addr),
    e = .returned (.pointer t10) ∧
    Calls Try.prog 61 ⟨[(.pointer t10), (.int .u64 (IntKind.u64.wrap ((b_l : Nat) : Int))), (.int .i64 16)]⟩ w_ fun e w__1 =>
      ∃ (t15 : Int),
      e = .returned (.int .i64 t15) ∧
      Calls Try.prog 46 ⟨[(.pointer t10)]⟩ w__1 fun e w__2 =>
        ∃ (t17_a : Option Addr) (t17_l : Nat) (t17_c : Nat),
        e = .returned (.slice t17_a t17_l t17_c) ∧
        ∃ (t19_a : Option Addr) (t19_l : Nat) (t19_c : Nat) (w__3 : World),
        (Builtin.append_ #[36, 36] 36 ⟨[(.slice t17_a t17_l t17_c), (.slice b_a b_l b_c)]⟩).run Try.prog w__2 = .ok (.slice t19_a t19_l t19_c) w__3 ∧
        Calls Try.prog 43 ⟨[]⟩ w__3 fun e w__4 =>
          ∃ (t20 : Option Addr),
          e = .returned (.pointer t20) ∧
          Calls Try.prog 67 ⟨[(.slice t19_a t19_l t19_c)]⟩ w__4 fun e w__5 =>
            ∃ (t23 : Int),
            e = .returned (.int .u16 t23) ∧
            Calls Try.prog 61 ⟨[(.pointer t20), (.int .u64 (IntKind.u64.wrap t23)), (.int .i64 16)]⟩ w__5 fun e w__6 =>
              ∃ (t25 : Int),
              e = .returned (.int .i64 t25) ∧
              Calls Try.prog 46 ⟨[(.pointer t20)]⟩ w__6 fun e w__7 =>
                ∃ (t28_a : Option Addr) (t28_l : Nat) (t28_c : Nat),
                e = .returned (.slice t28_a t28_l t28_c) ∧
                ∃ (t29_a : Option Addr) (t29_l : Nat) (t29_c : Nat) (w__8 : World),
                (Builtin.append_ #[36, 36] 36 ⟨[(.slice t19_a t19_l t19_c), (.slice t28_a t28_l t28_c)]⟩).run Try.prog w__7 = .ok (.slice t29_a t29_l t29_c) w__8 ∧
                R (.tuple ⟨[(.slice t29_a t29_l t29_c), (.int .i64 0)]⟩) w__8

def S48 (b_a : Option Addr) (b_l : Nat) (b_c : Nat) (w : World) (R : Value → World → Prop) : Prop :=
  cond (decide ((1000 : Int) < ((b_l : Nat) : Int))) (
    R (.tuple ⟨[(.slice none 0 0), (.int .i64 4)]⟩) w
  ) (
    S48_k0 b_a b_l b_c w R
  )

theorem S48_eq (b_a : Option Addr) (b_l : Nat) (b_c : Nat) (w : World) (R : Value → World → Prop) : Eng.R Try.prog ⟨cal, S48_nx⟩ 30 S48_ann [] (Try.f48.body.getD .skip) (bodyQ Try.prog #[.tmp 2, .tmp 3] R) (argE [(.slice b_a b_l b_c)]) w = S48 b_a b_l b_c w R := by kernel_rfl
/-- A call of 'carfax/check.Frame', by its condition. -/
theorem S48_calls {b_a : Option Addr} {b_l : Nat} {b_c : Nat} {w : World} {R : Value → World → Prop} (hS : S48 b_a b_l b_c w R) : Ret Try.prog 48 [(.slice b_a b_l b_c)] w R :=
  R_calls (C := ⟨cal, S48_nx⟩) cal_ok follows Try.func48 (c := Try.f48.body.getD .skip) (res := #[.tmp 2, .tmp 3]) (n := 30) (by kernel_rfl) (by kernel_rfl) (by kernel_rfl) (by kernel_rfl) ((S48_eq b_a b_l b_c w R).mpr hS)

def S49_ann (p : List Nat) : Option LA :=
  none

def S49_nx (t : Nat) : Option (TypeId × TypeId) := none

def S49_k1 (d : Option Addr) (b_a : Option Addr) (b_l : Nat) (b_c : Nat) (w : World) (R : Value → World → Prop) : Prop :=
  ∃ (t22 : Addr),
  d = some t22 ∧
  ∃ (t24_a : Option Addr) (t24_l : Nat) (t24_c : Nat),
  w.cell? t22 = some (.slice t24_a t24_l t24_c) ∧
  ∃ (t26_a : Option Addr) (t26_l : Nat) (t26_c : Nat) (w_ : World),
  (Builtin.append_ #[36, 36] 36 ⟨[(.slice t24_a t24_l t24_c), (.slice b_a b_l b_c)]⟩).run Try.prog w = .ok (.slice t26_a t26_l t26_c) w_ ∧
  ∃ (t27 : Addr),
  d = some t27 ∧
  (∃ u, w_.cell? t27 = some u) ∧
  w_.frozen? t27 = false ∧
  R (.int .i64 0) (w_.setCell t27 (.slice t26_a t26_l t26_c))

def S49_k0 (d : Option Addr) (b_a : Option Addr) (b_l : Nat) (b_c : Nat) (w : World) (R : Value → World → Prop) : Prop :=
  ∃ (t14 : Addr),
  d = some t14 ∧
  ∃ (t16_a : Option Addr) (t16_l : Nat) (t16_c : Nat),
  w.cell? t14 = some (.slice t16_a t16_l t16_c) ∧
  cond (decide (((IntKind.i64.wrap (1048576 - ((t16_l : Nat) : Int))) : Int) < ((b_l : Nat) : Int))) (
    R (.int .i64 4) w
  ) (
    S49_k1 d b_a b_l b_c w R
  )

def S49 (d : Option Addr) (b_a : Option Addr) (b_l : Nat) (b_c : Nat) (w : World) (R : Value → World → Prop) : Prop :=
  Calls Try.prog 65 ⟨[(.pointer d)]⟩ w fun e w_ =>
    ∃ (t7 : Int),
    e = .returned (.int .i64 t7) ∧
    cond (!decide ((t7 : Int) = 0)) (
      R (.int .i64 t7) w_
    ) (
      S49_k0 d b_a b_l b_c w_ R
    )

theorem S49_eq (d : Option Addr) (b_a : Option Addr) (b_l : Nat) (b_c : Nat) (w : World) (R : Value → World → Prop) : Eng.R Try.prog ⟨cal, S49_nx⟩ 29 S49_ann [] (Try.f49.body.getD .skip) (bodyQ Try.prog #[.tmp 4] R) (argE [(.pointer d), (.slice b_a b_l b_c)]) w = S49 d b_a b_l b_c w R := by kernel_rfl
/-- A call of '(*carfax/disk.Disk).Append', by its condition. -/
theorem S49_calls {d : Option Addr} {b_a : Option Addr} {b_l : Nat} {b_c : Nat} {w : World} {R : Value → World → Prop} (hS : S49 d b_a b_l b_c w R) : Ret Try.prog 49 [(.pointer d), (.slice b_a b_l b_c)] w R :=
  R_calls (C := ⟨cal, S49_nx⟩) cal_ok follows Try.func49 (c := Try.f49.body.getD .skip) (res := #[.tmp 4]) (n := 29) (by kernel_rfl) (by kernel_rfl) (by kernel_rfl) (by kernel_rfl) ((S49_eq d b_a b_l b_c w R).mpr hS)

def S50_ann (p : List Nat) : Option LA :=
  none

def S50_nx (t : Nat) : Option (TypeId × TypeId) := none

def S50 (b_a : Option Addr) (b_l : Nat) (b_c : Nat) (w : World) (R : Value → World → Prop) : Prop :=
  ∃ (t4_a : Option Addr) (t4_l : Nat) (t4_c : Nat) (w_ : World),
  (Builtin.append_ #[36, 36] 36 ⟨[(.slice none 0 0), (.slice b_a b_l b_c)]⟩).run Try.prog w = .ok (.slice t4_a t4_l t4_c) w_ ∧
  R (.pointer (some ⟨w_.heap.size, 0, none⟩)) (w_.alloc (.cells ⟨[(.slice t4_a t4_l t4_c), (.int .i64 0), (.int .i64 0)]⟩ 127))

theorem S50_eq (b_a : Option Addr) (b_l : Nat) (b_c : Nat) (w : World) (R : Value → World → Prop) : Eng.R Try.prog ⟨cal, S50_nx⟩ 7 S50_ann [] (Try.f50.body.getD .skip) (bodyQ Try.prog #[.tmp 2] R) (argE [(.slice b_a b_l b_c)]) w = S50 b_a b_l b_c w R := by kernel_rfl
/-- A call of 'carfax/bits.NewReader', by its condition. -/
theorem S50_calls {b_a : Option Addr} {b_l : Nat} {b_c : Nat} {w : World} {R : Value → World → Prop} (hS : S50 b_a b_l b_c w R) : Ret Try.prog 50 [(.slice b_a b_l b_c)] w R :=
  R_calls (C := ⟨cal, S50_nx⟩) cal_ok follows Try.func50 (c := Try.f50.body.getD .skip) (res := #[.tmp 2]) (n := 7) (by kernel_rfl) (by kernel_rfl) (by kernel_rfl) (by kernel_rfl) ((S50_eq b_a b_l b_c w R).mpr hS)

def S51_ann (p : List Nat) : Option LA :=
  none

def S51_nx (t : Nat) : Option (TypeId × TypeId) := none

def S51 (width : Int) (cap : Addr) (w : World) (R : Value → World → Prop) : Prop :=
  ∃ (t4 : Option Addr),
  w.cell? cap = some (.pointer t4) ∧
  Calls Try.prog 52 ⟨[(.pointer t4), (.int .i64 width)]⟩ w fun e w_ =>
    ∃ (t6 : Int),
    e = .returned (.int .u64 t6) ∧
    R (.int .i64 (IntKind.i64.wrap t6)) w_

theorem S51_eq (width : Int) (cap : Addr) (w : World) (R : Value → World → Prop) : Eng.R Try.prog ⟨cal, S51_nx⟩ 8 S51_ann [] (Try.f51.body.getD .skip) (bodyQ Try.prog #[.tmp 3] R) (argE [(.int .i64 width), (.pointer (some cap))]) w = S51 width cap w R := by kernel_rfl
/-- A call of 'carfax/record.Take$1', by its condition. -/
theorem S51_calls {width : Int} {cap : Addr} {w : World} {R : Value → World → Prop} (hS : S51 width cap w R) : Ret Try.prog 51 [(.int .i64 width), (.pointer (some cap))] w R :=
  R_calls (C := ⟨cal, S51_nx⟩) cal_ok follows Try.func51 (c := Try.f51.body.getD .skip) (res := #[.tmp 3]) (n := 8) (by kernel_rfl) (by kernel_rfl) (by kernel_rfl) (by kernel_rfl) ((S51_eq width cap w R).mpr hS)

def S52_ann (p : List Nat) : Option LA := match p with
  | [0, 1, 0, 1, 1, 1] => some ⟨[0, 34], [(5, .one (.int .u64)), (35, .one (.int .i64))]⟩
  | _ => none

def S52_nx (t : Nat) : Option (TypeId × TypeId) := none

def S52_k5 (r : Option Addr) (n_ : Int) (t34 : Int) (t35 : Int) (w : World) (R : Value → World → Prop) (B1 : (Int) × (Int) × Unit → World → Prop) : Prop :=
  ∃ (t44 : Addr),
  r = some t44 ∧
  ∃ (t46 : Int),
  w.cell? (t44.add 1) = some (.int .i64 t46) ∧
  ∃ (t48 : Addr),
  r = some t48 ∧
  (∃ u, w.cell? (t48.add 1) = some u) ∧
  w.frozen? (t48.add 1) = false ∧
  B1 (n_, (IntKind.i64.wrap (t35 + 1)), ()) (w.setCell (t48.add 1) (.int .i64 (IntKind.i64.wrap (t46 + 1))))

def S52_k4 (r : Option Addr) (n_ : Int) (t34 : Int) (t35 : Int) (w : World) (R : Value → World → Prop) (B1 : (Int) × (Int) × Unit → World → Prop) : Prop :=
  0 ≤ (1 : Int) ∧
  Calls Try.prog 68 ⟨[(.pointer r), (.int .i64 0)]⟩ w fun e w_ =>
    ∃ (t40 : Bool),
    e = .returned (.bool t40) ∧
    cond t40 (
      S52_k5 r (bitsI .or .u64 (IntKind.u64.wrap (n_ * 2 ^ (min (Int.toNat 1) (IntKind.u64.bits)))) 1) t34 t35 w_ R B1
    ) (
      S52_k5 r (IntKind.u64.wrap (n_ * 2 ^ (min (Int.toNat 1) (IntKind.u64.bits)))) t34 t35 w_ R B1
    )

def S52_L3 (r : Option Addr) (n_ : Int) (t34 : Int) (t35 : Int) (w : World) (R : Value → World → Prop) (B1 : (Int) × (Int) × Unit → World → Prop) : Prop :=
  cond (decide ((t35 : Int) < t34)) (
    S52_k4 r n_ t34 t35 w R B1
  ) (
    R (.int .u64 n_) w
  )

def S52_k2 (r : Option Addr) (many : Int) (w : World) (R : Value → World → Prop) : Prop :=
  ∃ (I : (Int) × (Int) × Unit → World → Prop) (μ : (Int) × (Int) × Unit → World → Nat),
  I (0, 0, ()) w ∧
  ∀ (J : Env) (s : (Int) × (Int) × Unit) (w' : World), I s w' →
    S52_L3 r s.1 many s.2.1 w' R (fun s' w'' => I s' w'' ∧ μ s' w'' < μ s w')

def S52_k1 (r : Option Addr) (many : Int) (t16 : Bool) (w : World) (R : Value → World → Prop) : Prop :=
  cond t16 (
    ∃ (t24 : Addr),
    r = some t24 ∧
    (∃ u, w.cell? (t24.add 2) = some u) ∧
    w.frozen? (t24.add 2) = false ∧
    R (.int .u64 0) (w.setCell (t24.add 2) (.int .i64 1))
  ) (
    Calls Try.prog 56 ⟨[(.pointer r)]⟩ w fun e w_ =>
      ∃ (t29 : Int),
      e = .returned (.int .i64 t29) ∧
      cond (decide ((t29 : Int) < many)) (
        ∃ (t32 : Addr),
        r = some t32 ∧
        (∃ u, w_.cell? (t32.add 2) = some u) ∧
        w_.frozen? (t32.add 2) = false ∧
        R (.int .u64 0) (w_.setCell (t32.add 2) (.int .i64 10))
      ) (
        S52_k2 r many w_ R
      )
  )

def S52_k0 (r : Option Addr) (many : Int) (t6 : Bool) (w : World) (R : Value → World → Prop) : Prop :=
  cond t6 (
    R (.int .u64 0) w
  ) (
    cond (decide ((many : Int) < 0)) (
      S52_k1 r many true w R
    ) (
      S52_k1 r many (decide ((64 : Int) < many)) w R
    )
  )

def S52 (r : Option Addr) (many : Int) (w : World) (R : Value → World → Prop) : Prop :=
  cond (Option.isNone r) (
    S52_k0 r many true w R
  ) (
    ∃ (t11 : Addr),
    r = some t11 ∧
    ∃ (t13 : Int),
    w.cell? (t11.add 2) = some (.int .i64 t13) ∧
    S52_k0 r many (!decide ((t13 : Int) = 0)) w R
  )

theorem S52_eq (r : Option Addr) (many : Int) (w : World) (R : Value → World → Prop) : Eng.R Try.prog ⟨cal, S52_nx⟩ 52 S52_ann [] (Try.f52.body.getD .skip) (bodyQ Try.prog #[.tmp 4] R) (argE [(.pointer r), (.int .i64 many)]) w = S52 r many w R := by kernel_rfl
/-- A call of '(*carfax/bits.Reader).Get', by its condition. -/
theorem S52_calls {r : Option Addr} {many : Int} {w : World} {R : Value → World → Prop} (hS : S52 r many w R) : Ret Try.prog 52 [(.pointer r), (.int .i64 many)] w R :=
  R_calls (C := ⟨cal, S52_nx⟩) cal_ok follows Try.func52 (c := Try.f52.body.getD .skip) (res := #[.tmp 4]) (n := 52) (by kernel_rfl) (by kernel_rfl) (by kernel_rfl) (by kernel_rfl) ((S52_eq r many w R).mpr hS)

def S53_ann (p : List Nat) : Option LA := match p with
  | [0, 0, 1, 1, 1, 1] => some ⟨[0, 3], [(4, .one (.int .i64))]⟩
  | _ => none

def S53_nx (t : Nat) : Option (TypeId × TypeId) := none

def S53_k4 (r : Option Addr) (left : Int) (k : Int) (w : World) (R : Value → World → Prop) (B1 : (Int) × Unit → World → Prop) : Prop :=
  B1 ((IntKind.i64.wrap (k + 1)), ()) w

def S53_k6 (r : Option Addr) (k : Int) (w : World) (R : Value → World → Prop) : Prop :=
  ∃ (t43 : Addr),
  r = some t43 ∧
  ∃ (t45 : Int),
  w.cell? (t43.add 1) = some (.int .i64 t45) ∧
  ∃ (t48 : Addr),
  r = some t48 ∧
  (∃ u, w.cell? (t48.add 1) = some u) ∧
  w.frozen? (t48.add 1) = false ∧
  Calls Try.prog 52 ⟨[(.pointer r), (.int .i64 (IntKind.i64.wrap (k + 1)))]⟩ (w.setCell (t48.add 1) (.int .i64 (IntKind.i64.wrap (t45 + k)))) fun e w_ =>
    ∃ (t53 : Int),
    e = .returned (.int .u64 t53) ∧
    R (.int .u64 (IntKind.u64.wrap (t53 - 1))) w_

def S53_k5 (r : Option Addr) (left : Int) (k : Int) (w : World) (R : Value → World → Prop) : Prop :=
  cond (decide ((63 : Int) < k)) (
    ∃ (t31 : Addr),
    r = some t31 ∧
    (∃ u, w.cell? (t31.add 2) = some u) ∧
    w.frozen? (t31.add 2) = false ∧
    R (.int .u64 0) (w.setCell (t31.add 2) (.int .i64 4))
  ) (
    cond (decide ((left : Int) < (IntKind.i64.wrap ((IntKind.i64.wrap (2 * k)) + 1)))) (
      ∃ (t40 : Addr),
      r = some t40 ∧
      (∃ u, w.cell? (t40.add 2) = some u) ∧
      w.frozen? (t40.add 2) = false ∧
      R (.int .u64 0) (w.setCell (t40.add 2) (.int .i64 10))
    ) (
      S53_k6 r k w R
    )
  )

def S53_k3 (r : Option Addr) (left : Int) (k : Int) (t24 : Bool) (w : World) (R : Value → World → Prop) (B1 : (Int) × Unit → World → Prop) : Prop :=
  cond t24 (
    S53_k4 r left k w R B1
  ) (
    S53_k5 r left k w R
  )

def S53_L2 (r : Option Addr) (left : Int) (k : Int) (w : World) (R : Value → World → Prop) (B1 : (Int) × Unit → World → Prop) : Prop :=
  cond (decide ((k : Int) < left)) (
    Calls Try.prog 68 ⟨[(.pointer r), (.int .i64 k)]⟩ w fun e w_ =>
      ∃ (t22 : Bool),
      e = .returned (.bool t22) ∧
      S53_k3 r left k (!t22) w_ R B1
  ) (
    S53_k3 r left k false w R B1
  )

def S53_k1 (r : Option Addr) (w : World) (R : Value → World → Prop) : Prop :=
  Calls Try.prog 56 ⟨[(.pointer r)]⟩ w fun e w_ =>
    ∃ (t15 : Int),
    e = .returned (.int .i64 t15) ∧
    ∃ (I : (Int) × Unit → World → Prop) (μ : (Int) × Unit → World → Nat),
    I (0, ()) w_ ∧
    ∀ (J : Env) (s : (Int) × Unit) (w' : World), I s w' →
      S53_L2 r t15 s.1 w' R (fun s' w'' => I s' w'' ∧ μ s' w'' < μ s w')

def S53_k0 (r : Option Addr) (t13 : Bool) (w : World) (R : Value → World → Prop) : Prop :=
  cond t13 (
    R (.int .u64 0) w
  ) (
    S53_k1 r w R
  )

def S53 (r : Option Addr) (w : World) (R : Value → World → Prop) : Prop :=
  cond (Option.isNone r) (
    S53_k0 r true w R
  ) (
    ∃ (t9 : Addr),
    r = some t9 ∧
    ∃ (t11 : Int),
    w.cell? (t9.add 2) = some (.int .i64 t11) ∧
    S53_k0 r (!decide ((t11 : Int) = 0)) w R
  )

theorem S53_eq (r : Option Addr) (w : World) (R : Value → World → Prop) : Eng.R Try.prog ⟨cal, S53_nx⟩ 55 S53_ann [] (Try.f53.body.getD .skip) (bodyQ Try.prog #[.tmp 2] R) (argE [(.pointer r)]) w = S53 r w R := by kernel_rfl
/-- A call of '(*carfax/bits.Reader).Count', by its condition. -/
theorem S53_calls {r : Option Addr} {w : World} {R : Value → World → Prop} (hS : S53 r w R) : Ret Try.prog 53 [(.pointer r)] w R :=
  R_calls (C := ⟨cal, S53_nx⟩) cal_ok follows Try.func53 (c := Try.f53.body.getD .skip) (res := #[.tmp 2]) (n := 55) (by kernel_rfl) (by kernel_rfl) (by kernel_rfl) (by kernel_rfl) ((S53_eq r w R).mpr hS)

def S54_ann (p : List Nat) : Option LA := match p with
  | [0, 1, 0, 1, 1, 1, 1, 1] => some ⟨[0, 20], [(21, .one (.int .i64))]⟩
  | _ => none

def S54_nx (t : Nat) : Option (TypeId × TypeId) := none

def S54_k4 (r : Option Addr) (t20 : Int) (t21 : Int) (w : World) (R : Value → World → Prop) (B1 : (Int) × Unit → World → Prop) : Prop :=
  Calls Try.prog 68 ⟨[(.pointer r), (.int .i64 t21)]⟩ w fun e w_ =>
    ∃ (t26 : Bool),
    e = .returned (.bool t26) ∧
    cond t26 (
      R (.int .i64 11) w_
    ) (
      B1 ((IntKind.i64.wrap (t21 + 1)), ()) w_
    )

def S54_L3 (r : Option Addr) (t20 : Int) (t21 : Int) (w : World) (R : Value → World → Prop) (B1 : (Int) × Unit → World → Prop) : Prop :=
  cond (decide ((t21 : Int) < t20)) (
    S54_k4 r t20 t21 w R B1
  ) (
    R (.int .i64 0) w
  )

def S54_k2 (r : Option Addr) (left : Int) (w : World) (R : Value → World → Prop) : Prop :=
  ∃ (I : (Int) × Unit → World → Prop) (μ : (Int) × Unit → World → Nat),
  I (0, ()) w ∧
  ∀ (J : Env) (s : (Int) × Unit) (w' : World), I s w' →
    S54_L3 r left s.1 w' R (fun s' w'' => I s' w'' ∧ μ s' w'' < μ s w')

def S54_k1 (r : Option Addr) (w : World) (R : Value → World → Prop) : Prop :=
  Calls Try.prog 56 ⟨[(.pointer r)]⟩ w fun e w_ =>
    ∃ (t17 : Int),
    e = .returned (.int .i64 t17) ∧
    cond (decide ((7 : Int) < t17)) (
      R (.int .i64 11) w_
    ) (
      S54_k2 r t17 w_ R
    )

def S54_k0 (r : Option Addr) (w : World) (R : Value → World → Prop) : Prop :=
  ∃ (t8 : Addr),
  r = some t8 ∧
  ∃ (t10 : Int),
  w.cell? (t8.add 2) = some (.int .i64 t10) ∧
  cond (!decide ((t10 : Int) = 0)) (
    ∃ (t13 : Addr),
    r = some t13 ∧
    ∃ (t15 : Int),
    w.cell? (t13.add 2) = some (.int .i64 t15) ∧
    R (.int .i64 t15) w
  ) (
    S54_k1 r w R
  )

def S54 (r : Option Addr) (w : World) (R : Value → World → Prop) : Prop :=
  cond (Option.isNone r) (
    R (.int .i64 0) w
  ) (
    S54_k0 r w R
  )

theorem S54_eq (r : Option Addr) (w : World) (R : Value → World → Prop) : Eng.R Try.prog ⟨cal, S54_nx⟩ 28 S54_ann [] (Try.f54.body.getD .skip) (bodyQ Try.prog #[.tmp 2] R) (argE [(.pointer r)]) w = S54 r w R := by kernel_rfl
/-- A call of '(*carfax/bits.Reader).End', by its condition. -/
theorem S54_calls {r : Option Addr} {w : World} {R : Value → World → Prop} (hS : S54 r w R) : Ret Try.prog 54 [(.pointer r)] w R :=
  R_calls (C := ⟨cal, S54_nx⟩) cal_ok follows Try.func54 (c := Try.f54.body.getD .skip) (res := #[.tmp 2]) (n := 28) (by kernel_rfl) (by kernel_rfl) (by kernel_rfl) (by kernel_rfl) ((S54_eq r w R).mpr hS)

def S55_ann (p : List Nat) : Option LA :=
  none

def S55_nx (t : Nat) : Option (TypeId × TypeId) := none

def S55_k1 (f_a : Option Addr) (f_l : Nat) (f_c : Nat) (n_ : Int) (w : World) (R : Value → World → Prop) : Prop :=
  0 ≤ ((IntKind.i64.wrap (n_ - 2)) : Int) ∧
  ((IntKind.i64.wrap (n_ - 2)) : Int) ≤ ((f_c : Nat) : Int) ∧
  0 ≤ (2 : Int) ∧
  (2 : Int) ≤ (((Int.toNat (IntKind.i64.wrap (n_ - 2))) : Nat) : Int) ∧
  ∃ (t19_a : Option Addr) (t19_l : Nat) (t19_c : Nat) (w_ : World),
  (Builtin.append_ #[36, 36] 36 ⟨[(.slice none 0 0), (.slice (slAddr f_a f_c (Int.toNat 2) 1) ((Int.toNat (IntKind.i64.wrap (n_ - 2))) - (Int.toNat 2)) (f_c - (Int.toNat 2)))]⟩).run Try.prog w = .ok (.slice t19_a t19_l t19_c) w_ ∧
  R (.tuple ⟨[(.slice t19_a t19_l t19_c), (.bool true)]⟩) w_

def S55_k0 (f_a : Option Addr) (f_l : Nat) (f_c : Nat) (n_ : Int) (t14 : Bool) (w : World) (R : Value → World → Prop) : Prop :=
  cond t14 (
    R (.tuple ⟨[(.slice none 0 0), (.bool false)]⟩) w
  ) (
    S55_k1 f_a f_l f_c n_ w R
  )

def S55 (f_a : Option Addr) (f_l : Nat) (f_c : Nat) (w : World) (R : Value → World → Prop) : Prop :=
  Calls Try.prog 64 ⟨[(.slice f_a f_l f_c)]⟩ w fun e w_ =>
    ∃ (t6 : Int),
    e = .returned (.int .i64 t6) ∧
    cond (decide ((t6 : Int) = 0)) (
      S55_k0 f_a f_l f_c t6 true w_ R
    ) (
      S55_k0 f_a f_l f_c t6 (!decide ((t6 : Int) = ((f_l : Nat) : Int))) w_ R
    )

theorem S55_eq (f_a : Option Addr) (f_l : Nat) (f_c : Nat) (w : World) (R : Value → World → Prop) : Eng.R Try.prog ⟨cal, S55_nx⟩ 20 S55_ann [] (Try.f55.body.getD .skip) (bodyQ Try.prog #[.tmp 2, .tmp 3] R) (argE [(.slice f_a f_l f_c)]) w = S55 f_a f_l f_c w R := by kernel_rfl
/-- A call of 'carfax/check.Open', by its condition. -/
theorem S55_calls {f_a : Option Addr} {f_l : Nat} {f_c : Nat} {w : World} {R : Value → World → Prop} (hS : S55 f_a f_l f_c w R) : Ret Try.prog 55 [(.slice f_a f_l f_c)] w R :=
  R_calls (C := ⟨cal, S55_nx⟩) cal_ok follows Try.func55 (c := Try.f55.body.getD .skip) (res := #[.tmp 2, .tmp 3]) (n := 20) (by kernel_rfl) (by kernel_rfl) (by kernel_rfl) (by kernel_rfl) ((S55_eq f_a f_l f_c w R).mpr hS)

def S56_ann (p : List Nat) : Option LA :=
  none

def S56_nx (t : Nat) : Option (TypeId × TypeId) := none

def S56_k0 (r : Option Addr) (w : World) (R : Value → World → Prop) : Prop :=
  ∃ (t6 : Addr),
  r = some t6 ∧
  ∃ (t12 : Addr),
  r = some t12 ∧
  ∃ (t8_a : Option Addr) (t8_l : Nat) (t8_c : Nat),
  w.drew.cell? t6 = some (.slice t8_a t8_l t8_c) ∧
  ∃ (t14 : Int),
  w.drew.cell? (t12.add 1) = some (.int .i64 t14) ∧
  R (.int .i64 (IntKind.i64.wrap ((IntKind.i64.wrap (8 * ((t8_l : Nat) : Int))) - t14))) w.drew

def S56 (r : Option Addr) (w : World) (R : Value → World → Prop) : Prop :=
  cond (Option.isNone r) (
    R (.int .i64 0) w
  ) (
    S56_k0 r w R
  )

theorem S56_eq (r : Option Addr) (w : World) (R : Value → World → Prop) : Eng.R Try.prog ⟨cal, S56_nx⟩ 16 S56_ann [] (Try.f56.body.getD .skip) (bodyQ Try.prog #[.tmp 2] R) (argE [(.pointer r)]) w = S56 r w R := by kernel_rfl
/-- A call of '(*carfax/bits.Reader).Left', by its condition. -/
theorem S56_calls {r : Option Addr} {w : World} {R : Value → World → Prop} (hS : S56 r w R) : Ret Try.prog 56 [(.pointer r)] w R :=
  R_calls (C := ⟨cal, S56_nx⟩) cal_ok follows Try.func56 (c := Try.f56.body.getD .skip) (res := #[.tmp 2]) (n := 16) (by kernel_rfl) (by kernel_rfl) (by kernel_rfl) (by kernel_rfl) ((S56_eq r w R).mpr hS)

def S57_ann (p : List Nat) : Option LA :=
  none

def S57_nx (t : Nat) : Option (TypeId × TypeId) := none

def S57_k0 (t2 : Addr) (x : Addr) (t32 : Bool) (w : World) (R : Value → World → Prop) : Prop :=
  cond t32 (
    (∃ u, w.cell? t2 = some u) ∧
    w.frozen? t2 = false ∧
    (∃ u, (w.setCell t2 (.int .u8 0)).cell? (t2.add 1) = some u) ∧
    (w.setCell t2 (.int .u8 0)).frozen? (t2.add 1) = false ∧
    (∃ u, ((w.setCell t2 (.int .u8 0)).setCell (t2.add 1) (.int .i64 0)).cell? (t2.add 2) = some u) ∧
    ((w.setCell t2 (.int .u8 0)).setCell (t2.add 1) (.int .i64 0)).frozen? (t2.add 2) = false ∧
    ∃ (t2_0 : Int),
    (((w.setCell t2 (.int .u8 0)).setCell (t2.add 1) (.int .i64 0)).setCell (t2.add 2) (.int .i64 0)).cell? t2 = some (.int .u8 t2_0) ∧
    ∃ (t2_1 : Int),
    (((w.setCell t2 (.int .u8 0)).setCell (t2.add 1) (.int .i64 0)).setCell (t2.add 2) (.int .i64 0)).cell? (t2.add 1) = some (.int .i64 t2_1) ∧
    ∃ (t2_2 : Int),
    (((w.setCell t2 (.int .u8 0)).setCell (t2.add 1) (.int .i64 0)).setCell (t2.add 2) (.int .i64 0)).cell? (t2.add 2) = some (.int .i64 t2_2) ∧
    R (.tuple ⟨[(.agg ⟨[(.int .u8 t2_0), (.int .i64 t2_1), (.int .i64 t2_2)]⟩), (.int .i64 170)]⟩) (((w.setCell t2 (.int .u8 0)).setCell (t2.add 1) (.int .i64 0)).setCell (t2.add 2) (.int .i64 0))
  ) (
    ∃ (t34_0 : Int),
    w.cell? x = some (.int .u8 t34_0) ∧
    ∃ (t34_1 : Int),
    w.cell? (x.add 1) = some (.int .i64 t34_1) ∧
    ∃ (t34_2 : Int),
    w.cell? (x.add 2) = some (.int .i64 t34_2) ∧
    (∃ u, w.cell? t2 = some u) ∧
    w.frozen? t2 = false ∧
    (∃ u, (w.setCell t2 (.int .u8 t34_0)).cell? (t2.add 1) = some u) ∧
    (w.setCell t2 (.int .u8 t34_0)).frozen? (t2.add 1) = false ∧
    (∃ u, ((w.setCell t2 (.int .u8 t34_0)).setCell (t2.add 1) (.int .i64 t34_1)).cell? (t2.add 2) = some u) ∧
    ((w.setCell t2 (.int .u8 t34_0)).setCell (t2.add 1) (.int .i64 t34_1)).frozen? (t2.add 2) = false ∧
    ∃ (t2_0_1 : Int),
    (((w.setCell t2 (.int .u8 t34_0)).setCell (t2.add 1) (.int .i64 t34_1)).setCell (t2.add 2) (.int .i64 t34_2)).cell? t2 = some (.int .u8 t2_0_1) ∧
    ∃ (t2_1_1 : Int),
    (((w.setCell t2 (.int .u8 t34_0)).setCell (t2.add 1) (.int .i64 t34_1)).setCell (t2.add 2) (.int .i64 t34_2)).cell? (t2.add 1) = some (.int .i64 t2_1_1) ∧
    ∃ (t2_2_1 : Int),
    (((w.setCell t2 (.int .u8 t34_0)).setCell (t2.add 1) (.int .i64 t34_1)).setCell (t2.add 2) (.int .i64 t34_2)).cell? (t2.add 2) = some (.int .i64 t2_2_1) ∧
    R (.tuple ⟨[(.agg ⟨[(.int .u8 t2_0_1), (.int .i64 t2_1_1), (.int .i64 t2_2_1)]⟩), (.int .i64 0)]⟩) (((w.setCell t2 (.int .u8 t34_0)).setCell (t2.add 1) (.int .i64 t34_1)).setCell (t2.add 2) (.int .i64 t34_2))
  )

def S57 (b_a : Option Addr) (b_l : Nat) (b_c : Nat) (w : World) (R : Value → World → Prop) : Prop :=
  Calls Try.prog 50 ⟨[(.slice b_a b_l b_c)]⟩ (w.alloc (.cells ⟨[(.int .u8 0), (.int .i64 0), (.int .i64 0)]⟩ 67)) fun e w_ =>
    ∃ (t7 : Option Addr),
    e = .returned (.pointer t7) ∧
    Calls Try.prog 52 ⟨[(.pointer t7), (.int .i64 2)]⟩ w_ fun e w__1 =>
      ∃ (t9 : Int),
      e = .returned (.int .u64 t9) ∧
      (∃ u, (w__1.alloc (.cells ⟨[(.int .u8 0), (.int .i64 0), (.int .i64 0)]⟩ 67)).cell? ⟨w__1.heap.size, 0, none⟩ = some u) ∧
      (w__1.alloc (.cells ⟨[(.int .u8 0), (.int .i64 0), (.int .i64 0)]⟩ 67)).frozen? ⟨w__1.heap.size, 0, none⟩ = false ∧
      (∃ u, ((w__1.alloc (.cells ⟨[(.int .u8 0), (.int .i64 0), (.int .i64 0)]⟩ 67)).setCell ⟨w__1.heap.size, 0, none⟩ (.int .u8 (IntKind.u8.wrap t9))).cell? ⟨w__1.heap.size, 1, none⟩ = some u) ∧
      ((w__1.alloc (.cells ⟨[(.int .u8 0), (.int .i64 0), (.int .i64 0)]⟩ 67)).setCell ⟨w__1.heap.size, 0, none⟩ (.int .u8 (IntKind.u8.wrap t9))).frozen? ⟨w__1.heap.size, 1, none⟩ = false ∧
      (∃ u, (((w__1.alloc (.cells ⟨[(.int .u8 0), (.int .i64 0), (.int .i64 0)]⟩ 67)).setCell ⟨w__1.heap.size, 0, none⟩ (.int .u8 (IntKind.u8.wrap t9))).setCell ⟨w__1.heap.size, 1, none⟩ (.int .i64 0)).cell? ⟨w__1.heap.size, 2, none⟩ = some u) ∧
      (((w__1.alloc (.cells ⟨[(.int .u8 0), (.int .i64 0), (.int .i64 0)]⟩ 67)).setCell ⟨w__1.heap.size, 0, none⟩ (.int .u8 (IntKind.u8.wrap t9))).setCell ⟨w__1.heap.size, 1, none⟩ (.int .i64 0)).frozen? ⟨w__1.heap.size, 2, none⟩ = false ∧
      Calls Try.prog 52 ⟨[(.pointer t7), (.int .i64 8)]⟩ ((((w__1.alloc (.cells ⟨[(.int .u8 0), (.int .i64 0), (.int .i64 0)]⟩ 67)).setCell ⟨w__1.heap.size, 0, none⟩ (.int .u8 (IntKind.u8.wrap t9))).setCell ⟨w__1.heap.size, 1, none⟩ (.int .i64 0)).setCell ⟨w__1.heap.size, 2, none⟩ (.int .i64 0)) fun e w__2 =>
        ∃ (t13 : Int),
        e = .returned (.int .u64 t13) ∧
        (∃ u, w__2.cell? ⟨w__1.heap.size, 1, none⟩ = some u) ∧
        w__2.frozen? ⟨w__1.heap.size, 1, none⟩ = false ∧
        Calls Try.prog 52 ⟨[(.pointer t7), (.int .i64 6)]⟩ (w__2.setCell ⟨w__1.heap.size, 1, none⟩ (.int .i64 (IntKind.i64.wrap t13))) fun e w__3 =>
          ∃ (t17 : Int),
          e = .returned (.int .u64 t17) ∧
          (∃ u, w__3.cell? ⟨w__1.heap.size, 2, none⟩ = some u) ∧
          w__3.frozen? ⟨w__1.heap.size, 2, none⟩ = false ∧
          Calls Try.prog 54 ⟨[(.pointer t7)]⟩ (w__3.setCell ⟨w__1.heap.size, 2, none⟩ (.int .i64 (IntKind.i64.wrap t17))) fun e w__4 =>
            ∃ (t21 : Int),
            e = .returned (.int .i64 t21) ∧
            cond (!decide ((t21 : Int) = 0)) (
              S57_k0 ⟨w.heap.size, 0, none⟩ ⟨w__1.heap.size, 0, none⟩ true w__4 R
            ) (
              Calls Try.prog 56 ⟨[(.pointer t7)]⟩ w__4 fun e w__5 =>
                ∃ (t25 : Int),
                e = .returned (.int .i64 t25) ∧
                cond (decide ((0 : Int) < t25)) (
                  S57_k0 ⟨w.heap.size, 0, none⟩ ⟨w__1.heap.size, 0, none⟩ true w__5 R
                ) (
                  ∃ (t29_0 : Int),
                  w__5.cell? ⟨w__1.heap.size, 0, none⟩ = some (.int .u8 t29_0) ∧
                  ∃ (t29_1 : Int),
                  w__5.cell? ⟨w__1.heap.size, 1, none⟩ = some (.int .i64 t29_1) ∧
                  ∃ (t29_2 : Int),
                  w__5.cell? ⟨w__1.heap.size, 2, none⟩ = some (.int .i64 t29_2) ∧
                  Calls Try.prog 60 ⟨[(.agg ⟨[(.int .u8 t29_0), (.int .i64 t29_1), (.int .i64 t29_2)]⟩)]⟩ w__5 fun e w__6 =>
                    ∃ (t30 : Bool),
                    e = .returned (.bool t30) ∧
                    S57_k0 ⟨w.heap.size, 0, none⟩ ⟨w__1.heap.size, 0, none⟩ (!t30) w__6 R
                )
            )

theorem S57_eq (b_a : Option Addr) (b_l : Nat) (b_c : Nat) (w : World) (R : Value → World → Prop) : Eng.R Try.prog ⟨cal, S57_nx⟩ 35 S57_ann [] (Try.f57.body.getD .skip) (bodyQ Try.prog #[.cell 2 67, .tmp 3] R) (argE [(.slice b_a b_l b_c)]) w = S57 b_a b_l b_c w R := by kernel_rfl
/-- A call of 'carfax/record.TakeAct', by its condition. -/
theorem S57_calls {b_a : Option Addr} {b_l : Nat} {b_c : Nat} {w : World} {R : Value → World → Prop} (hS : S57 b_a b_l b_c w R) : Ret Try.prog 57 [(.slice b_a b_l b_c)] w R :=
  R_calls (C := ⟨cal, S57_nx⟩) cal_ok follows Try.func57 (c := Try.f57.body.getD .skip) (res := #[.cell 2 67, .tmp 3]) (n := 35) (by kernel_rfl) (by kernel_rfl) (by kernel_rfl) (by kernel_rfl) ((S57_eq b_a b_l b_c w R).mpr hS)

def S58_ann (p : List Nat) : Option LA :=
  none

def S58_nx (t : Nat) : Option (TypeId × TypeId) := none

def S58_k0 (r : Option Addr) (b_a : Option Addr) (b_l : Nat) (b_c : Nat) (w : World) (R : Value → World → Prop) : Prop :=
  Calls Try.prog 19 ⟨[(.slice b_a b_l b_c)]⟩ w fun e w_ =>
    ∃ (t20_0_0 : Bool) (t20_0_1 : Int) (t20_0_2_a : Option Addr) (t20_0_2_l : Nat) (t20_0_2_c : Nat) (t20_1 : Int),
    e = .returned (.tuple ⟨[(.agg ⟨[(.bool t20_0_0), (.int .u64 t20_0_1), (.slice t20_0_2_a t20_0_2_l t20_0_2_c)]⟩), (.int .i64 t20_1)]⟩) ∧
    (∃ u, (w_.alloc (.cells ⟨[(.bool false), (.int .u64 0), (.slice none 0 0)]⟩ 58)).cell? ⟨w_.heap.size, 0, none⟩ = some u) ∧
    (w_.alloc (.cells ⟨[(.bool false), (.int .u64 0), (.slice none 0 0)]⟩ 58)).frozen? ⟨w_.heap.size, 0, none⟩ = false ∧
    (∃ u, ((w_.alloc (.cells ⟨[(.bool false), (.int .u64 0), (.slice none 0 0)]⟩ 58)).setCell ⟨w_.heap.size, 0, none⟩ (.bool t20_0_0)).cell? ⟨w_.heap.size, 1, none⟩ = some u) ∧
    ((w_.alloc (.cells ⟨[(.bool false), (.int .u64 0), (.slice none 0 0)]⟩ 58)).setCell ⟨w_.heap.size, 0, none⟩ (.bool t20_0_0)).frozen? ⟨w_.heap.size, 1, none⟩ = false ∧
    (∃ u, (((w_.alloc (.cells ⟨[(.bool false), (.int .u64 0), (.slice none 0 0)]⟩ 58)).setCell ⟨w_.heap.size, 0, none⟩ (.bool t20_0_0)).setCell ⟨w_.heap.size, 1, none⟩ (.int .u64 t20_0_1)).cell? ⟨w_.heap.size, 2, none⟩ = some u) ∧
    (((w_.alloc (.cells ⟨[(.bool false), (.int .u64 0), (.slice none 0 0)]⟩ 58)).setCell ⟨w_.heap.size, 0, none⟩ (.bool t20_0_0)).setCell ⟨w_.heap.size, 1, none⟩ (.int .u64 t20_0_1)).frozen? ⟨w_.heap.size, 2, none⟩ = false ∧
    ∃ (t25 : Int),
    ((((w_.alloc (.cells ⟨[(.bool false), (.int .u64 0), (.slice none 0 0)]⟩ 58)).setCell ⟨w_.heap.size, 0, none⟩ (.bool t20_0_0)).setCell ⟨w_.heap.size, 1, none⟩ (.int .u64 t20_0_1)).setCell ⟨w_.heap.size, 2, none⟩ (.slice t20_0_2_a t20_0_2_l t20_0_2_c)).cell? ⟨w_.heap.size, 1, none⟩ = some (.int .u64 t25) ∧
    Calls Try.prog 29 ⟨[(.agg ⟨[(.bool true), (.int .u64 t25), (.slice none 0 0)]⟩)]⟩ ((((w_.alloc (.cells ⟨[(.bool false), (.int .u64 0), (.slice none 0 0)]⟩ 58)).setCell ⟨w_.heap.size, 0, none⟩ (.bool t20_0_0)).setCell ⟨w_.heap.size, 1, none⟩ (.int .u64 t20_0_1)).setCell ⟨w_.heap.size, 2, none⟩ (.slice t20_0_2_a t20_0_2_l t20_0_2_c)) fun e w__1 =>
      ∃ (t27_0_a : Option Addr) (t27_0_l : Nat) (t27_0_c : Nat) (t27_1 : Int),
      e = .returned (.tuple ⟨[(.slice t27_0_a t27_0_l t27_0_c), (.int .i64 t27_1)]⟩) ∧
      ∃ (t31 : Addr),
      r = some t31 ∧
      ∃ (t33 : Option Addr),
      w__1.cell? (t31.add 8) = some (.pointer t33) ∧
      Calls Try.prog 24 ⟨[(.pointer t33), (.slice t27_0_a t27_0_l t27_0_c)]⟩ w__1 fun e w__2 =>
        ∃ (t35 : Bool),
        e = .returned (.bool t35) ∧
        R (.tuple ⟨[]⟩) w__2

def S58 (r : Option Addr) (w : World) (R : Value → World → Prop) : Prop :=
  ∃ (t10 : Addr),
  r = some t10 ∧
  ∃ (t12 : Option Addr),
  w.cell? (t10.add 8) = some (.pointer t12) ∧
  Calls Try.prog 28 ⟨[(.pointer t12)]⟩ w fun e w_ =>
    ∃ (t13_0_a : Option Addr) (t13_0_l : Nat) (t13_0_c : Nat) (t13_1 : Bool),
    e = .returned (.tuple ⟨[(.slice t13_0_a t13_0_l t13_0_c), (.bool t13_1)]⟩) ∧
    cond (!t13_1) (
      R (.tuple ⟨[]⟩) w_
    ) (
      S58_k0 r t13_0_a t13_0_l t13_0_c w_ R
    )

theorem S58_eq (r : Option Addr) (w : World) (R : Value → World → Prop) : Eng.R Try.prog ⟨cal, S58_nx⟩ 36 S58_ann [] (Try.f58.body.getD .skip) (bodyQ Try.prog #[] R) (argE [(.pointer r)]) w = S58 r w R := by kernel_rfl
/-- A call of '(*carfax/robot.Robot).heard', by its condition. -/
theorem S58_calls {r : Option Addr} {w : World} {R : Value → World → Prop} (hS : S58 r w R) : Ret Try.prog 58 [(.pointer r)] w R :=
  R_calls (C := ⟨cal, S58_nx⟩) cal_ok follows Try.func58 (c := Try.f58.body.getD .skip) (res := #[]) (n := 36) (by kernel_rfl) (by kernel_rfl) (by kernel_rfl) (by kernel_rfl) ((S58_eq r w R).mpr hS)

def S59_ann (p : List Nat) : Option LA :=
  none

def S59_nx (t : Nat) : Option (TypeId × TypeId) := none

def S59_k0 (s_a : Option Addr) (s_l : Nat) (s_c : Nat) (w : World) (R : Value → World → Prop) : Prop :=
  ∃ (t7_a : Option Addr) (t7_l : Nat) (t7_c : Nat) (w_ : World),
  (Builtin.append_ #[36, 36] 36 ⟨[(.slice (some ⟨w.heap.size, 0, none⟩) 0 0), (.slice s_a s_l s_c)]⟩).run Try.prog (w.alloc (.cells ⟨[]⟩ 5)) = .ok (.slice t7_a t7_l t7_c) w_ ∧
  R (.slice t7_a t7_l t7_c) w_

def S59 (s_a : Option Addr) (s_l : Nat) (s_c : Nat) (w : World) (R : Value → World → Prop) : Prop :=
  cond (Option.isNone s_a) (
    R (.slice none 0 0) w
  ) (
    S59_k0 s_a s_l s_c w R
  )

theorem S59_eq (s_a : Option Addr) (s_l : Nat) (s_c : Nat) (w : World) (R : Value → World → Prop) : Eng.R Try.prog ⟨cal, S59_nx⟩ 8 S59_ann [] (Try.f59.body.getD .skip) (bodyQ Try.prog #[.tmp 2] R) (argE [(.slice s_a s_l s_c)]) w = S59 s_a s_l s_c w R := by kernel_rfl
/-- A call of 'slices.Clone[[]byte,byte]', by its condition. -/
theorem S59_calls {s_a : Option Addr} {s_l : Nat} {s_c : Nat} {w : World} {R : Value → World → Prop} (hS : S59 s_a s_l s_c w R) : Ret Try.prog 59 [(.slice s_a s_l s_c)] w R :=
  R_calls (C := ⟨cal, S59_nx⟩) cal_ok follows Try.func59 (c := Try.f59.body.getD .skip) (res := #[.tmp 2]) (n := 8) (by kernel_rfl) (by kernel_rfl) (by kernel_rfl) (by kernel_rfl) ((S59_eq s_a s_l s_c w R).mpr hS)

def S60_ann (p : List Nat) : Option LA :=
  none

def S60_nx (t : Nat) : Option (TypeId × TypeId) := none

def S60 (x_0 : Int) (x_1 : Int) (x_2 : Int) (w : World) (R : Value → World → Prop) : Prop :=
  ∃ (t4 : Int),
  (w.alloc (.cells ⟨[(.int .u8 x_0), (.int .i64 x_1), (.int .i64 x_2)]⟩ 67)).cell? ⟨w.heap.size, 0, none⟩ = some (.int .u8 t4) ∧
  cond (decide ((1 : Int) ≤ t4)) (
    ∃ (t8 : Int),
    (w.alloc (.cells ⟨[(.int .u8 x_0), (.int .i64 x_1), (.int .i64 x_2)]⟩ 67)).cell? ⟨w.heap.size, 0, none⟩ = some (.int .u8 t8) ∧
    cond (decide ((t8 : Int) ≤ 3)) (
      ∃ (t13 : Int),
      (w.alloc (.cells ⟨[(.int .u8 x_0), (.int .i64 x_1), (.int .i64 x_2)]⟩ 67)).cell? ⟨w.heap.size, 1, none⟩ = some (.int .i64 t13) ∧
      Calls Try.prog 47 ⟨[(.int .i64 t13), (.int .i64 8)]⟩ (w.alloc (.cells ⟨[(.int .u8 x_0), (.int .i64 x_1), (.int .i64 x_2)]⟩ 67)) fun e w_ =>
        ∃ (t14 : Bool),
        e = .returned (.bool t14) ∧
        cond t14 (
          ∃ (t18 : Int),
          w_.cell? ⟨w.heap.size, 2, none⟩ = some (.int .i64 t18) ∧
          Calls Try.prog 47 ⟨[(.int .i64 t18), (.int .i64 6)]⟩ w_ fun e w__1 =>
            ∃ (t19 : Bool),
            e = .returned (.bool t19) ∧
            cond t19 (
              ∃ (t23 : Int),
              w__1.cell? ⟨w.heap.size, 0, none⟩ = some (.int .u8 t23) ∧
              cond (!decide ((t23 : Int) = 1)) (
                R (.bool true) w__1
              ) (
                ∃ (t27 : Int),
                w__1.cell? ⟨w.heap.size, 2, none⟩ = some (.int .i64 t27) ∧
                R (.bool (decide ((t27 : Int) = 0))) w__1
              )
            ) (
              R (.bool false) w__1
            )
        ) (
          R (.bool false) w_
        )
    ) (
      R (.bool false) (w.alloc (.cells ⟨[(.int .u8 x_0), (.int .i64 x_1), (.int .i64 x_2)]⟩ 67))
    )
  ) (
    R (.bool false) (w.alloc (.cells ⟨[(.int .u8 x_0), (.int .i64 x_1), (.int .i64 x_2)]⟩ 67))
  )

theorem S60_eq (x_0 : Int) (x_1 : Int) (x_2 : Int) (w : World) (R : Value → World → Prop) : Eng.R Try.prog ⟨cal, S60_nx⟩ 31 S60_ann [] (Try.f60.body.getD .skip) (bodyQ Try.prog #[.tmp 2] R) (argE [(.agg ⟨[(.int .u8 x_0), (.int .i64 x_1), (.int .i64 x_2)]⟩)]) w = S60 x_0 x_1 x_2 w R := by kernel_rfl
/-- A call of 'carfax/record.may', by its condition. -/
theorem S60_calls {x_0 : Int} {x_1 : Int} {x_2 : Int} {w : World} {R : Value → World → Prop} (hS : S60 x_0 x_1 x_2 w R) : Ret Try.prog 60 [(.agg ⟨[(.int .u8 x_0), (.int .i64 x_1), (.int .i64 x_2)]⟩)] w R :=
  R_calls (C := ⟨cal, S60_nx⟩) cal_ok follows Try.func60 (c := Try.f60.body.getD .skip) (res := #[.tmp 2]) (n := 31) (by kernel_rfl) (by kernel_rfl) (by kernel_rfl) (by kernel_rfl) ((S60_eq x_0 x_1 x_2 w R).mpr hS)

def S61_ann (p : List Nat) : Option LA := match p with
  | [0, 1, 0, 1, 1, 1] => some ⟨[1, 7], [(8, .one (.int .i64))]⟩
  | _ => none

def S61_nx (t : Nat) : Option (TypeId × TypeId) := none

def S61_k3 (n_ : Int) (lay_f0 : Option Addr) (k : Int) (w : World) (R : Value → World → Prop) (B1 : (Int) × Unit → World → Prop) : Prop :=
  0 ≤ (k : Int) ∧
  Calls Try.prog 69 ⟨[(.pointer lay_f0), (.bool (decide (((bitsI .and .u64 (Int.fdiv n_ (2 ^ (min (Int.toNat k) (IntKind.u64.bits)))) 1) : Int) = 1)))]⟩ w fun e w_ =>
    e = .returned (.tuple ⟨[]⟩) ∧
    B1 ((IntKind.i64.wrap (k - 1)), ()) w_

def S61_L2 (n_ : Int) (lay_f0 : Option Addr) (k : Int) (w : World) (R : Value → World → Prop) (B1 : (Int) × Unit → World → Prop) : Prop :=
  cond (decide ((0 : Int) ≤ k)) (
    S61_k3 n_ lay_f0 k w R B1
  ) (
    R (.int .i64 0) w
  )

def S61_k1 (w_ : Option Addr) (n_ : Int) (many : Int) (w : World) (R : Value → World → Prop) : Prop :=
  ∃ (I : (Int) × Unit → World → Prop) (μ : (Int) × Unit → World → Nat),
  I ((IntKind.i64.wrap (many - 1)), ()) w ∧
  ∀ (J : Env) (s : (Int) × Unit) (w' : World), I s w' →
    S61_L2 n_ w_ s.1 w' R (fun s' w'' => I s' w'' ∧ μ s' w'' < μ s w')

def S61_k0 (w_ : Option Addr) (n_ : Int) (many : Int) (t12 : Bool) (w : World) (R : Value → World → Prop) : Prop :=
  cond t12 (
    R (.int .i64 1) w
  ) (
    ∃ (t22 : Addr),
    w_ = some t22 ∧
    ∃ (t24 : Int),
    w.cell? (t22.add 1) = some (.int .i64 t24) ∧
    cond (decide (((IntKind.i64.wrap (1048576 - t24)) : Int) < many)) (
      R (.int .i64 4) w
    ) (
      S61_k1 w_ n_ many w R
    )
  )

def S61 (w_ : Option Addr) (n_ : Int) (many : Int) (w : World) (R : Value → World → Prop) : Prop :=
  cond (Option.isNone w_) (
    R (.int .i64 2) w
  ) (
    cond (decide ((many : Int) < 0)) (
      S61_k0 w_ n_ many true w R
    ) (
      S61_k0 w_ n_ many (decide ((64 : Int) < many)) w R
    )
  )

theorem S61_eq (w_ : Option Addr) (n_ : Int) (many : Int) (w : World) (R : Value → World → Prop) : Eng.R Try.prog ⟨cal, S61_nx⟩ 42 S61_ann [] (Try.f61.body.getD .skip) (bodyQ Try.prog #[.tmp 6] R) (argE [(.pointer w_), (.int .u64 n_), (.int .i64 many)]) w = S61 w_ n_ many w R := by kernel_rfl
/-- A call of '(*carfax/bits.Writer).Put', by its condition. -/
theorem S61_calls {w_ : Option Addr} {n_ : Int} {many : Int} {w : World} {R : Value → World → Prop} (hS : S61 w_ n_ many w R) : Ret Try.prog 61 [(.pointer w_), (.int .u64 n_), (.int .i64 many)] w R :=
  R_calls (C := ⟨cal, S61_nx⟩) cal_ok follows Try.func61 (c := Try.f61.body.getD .skip) (res := #[.tmp 6]) (n := 42) (by kernel_rfl) (by kernel_rfl) (by kernel_rfl) (by kernel_rfl) ((S61_eq w_ n_ many w R).mpr hS)

def S62_ann (p : List Nat) : Option LA :=
  none

def S62_nx (t : Nat) : Option (TypeId × TypeId) := none

def S62_k1 (s_a : Option Addr) (s_l : Nat) (s_c : Nat) (oldlen : Int) (w : World) (R : Value → World → Prop) : Prop :=
  0 ≤ (oldlen : Int) ∧
  (oldlen : Int) ≤ ((s_c : Nat) : Int) ∧
  0 ≤ (((s_l : Nat) : Int) : Int) ∧
  (((s_l : Nat) : Int) : Int) ≤ (((Int.toNat oldlen) : Nat) : Int) ∧
  ∃ (w_ : World),
  (Builtin.clear_ #[26] 0 ⟨[(.slice (slAddr s_a s_c (Int.toNat ((s_l : Nat) : Int)) 1) ((Int.toNat oldlen) - (Int.toNat ((s_l : Nat) : Int))) (s_c - (Int.toNat ((s_l : Nat) : Int))))]⟩).run Try.prog w = .ok (.tuple ⟨[]⟩) w_ ∧
  R (.slice s_a s_l s_c) w_

def S62_k0 (s_a : Option Addr) (s_l : Nat) (s_c : Nat) (i : Int) (j : Int) (w : World) (R : Value → World → Prop) : Prop :=
  0 ≤ (i : Int) ∧
  (i : Int) ≤ ((s_c : Nat) : Int) ∧
  0 ≤ (j : Int) ∧
  (j : Int) ≤ ((s_l : Nat) : Int) ∧
  ∃ (t26_a : Option Addr) (t26_l : Nat) (t26_c : Nat) (w_ : World),
  (Builtin.append_ #[26, 26] 26 ⟨[(.slice (slAddr s_a s_c 0 1) ((Int.toNat i) - 0) (s_c - 0)), (.slice (slAddr s_a s_c (Int.toNat j) 1) (s_l - (Int.toNat j)) (s_c - (Int.toNat j)))]⟩).run Try.prog w.drew = .ok (.slice t26_a t26_l t26_c) w_ ∧
  S62_k1 t26_a t26_l t26_c ((s_l : Nat) : Int) w_ R

def S62 (s_a : Option Addr) (s_l : Nat) (s_c : Nat) (i : Int) (j : Int) (w : World) (R : Value → World → Prop) : Prop :=
  0 ≤ (((s_l : Nat) : Int) : Int) ∧
  (((s_l : Nat) : Int) : Int) ≤ ((s_c : Nat) : Int) ∧
  0 ≤ (j : Int) ∧
  (j : Int) ≤ (((Int.toNat ((s_l : Nat) : Int)) : Nat) : Int) ∧
  0 ≤ (i : Int) ∧
  (i : Int) ≤ (((Int.toNat j) : Nat) : Int) ∧
  cond (decide ((i : Int) = j)) (
    R (.slice s_a s_l s_c) w
  ) (
    S62_k0 s_a s_l s_c i j w R
  )

theorem S62_eq (s_a : Option Addr) (s_l : Nat) (s_c : Nat) (i : Int) (j : Int) (w : World) (R : Value → World → Prop) : Eng.R Try.prog ⟨cal, S62_nx⟩ 33 S62_ann [] (Try.f62.body.getD .skip) (bodyQ Try.prog #[.tmp 6] R) (argE [(.slice s_a s_l s_c), (.int .i64 i), (.int .i64 j)]) w = S62 s_a s_l s_c i j w R := by kernel_rfl
/-- A call of 'slices.Delete[[][]byte,[]byte]', by its condition. -/
theorem S62_calls {s_a : Option Addr} {s_l : Nat} {s_c : Nat} {i : Int} {j : Int} {w : World} {R : Value → World → Prop} (hS : S62 s_a s_l s_c i j w R) : Ret Try.prog 62 [(.slice s_a s_l s_c), (.int .i64 i), (.int .i64 j)] w R :=
  R_calls (C := ⟨cal, S62_nx⟩) cal_ok follows Try.func62 (c := Try.f62.body.getD .skip) (res := #[.tmp 6]) (n := 33) (by kernel_rfl) (by kernel_rfl) (by kernel_rfl) (by kernel_rfl) ((S62_eq s_a s_l s_c i j w R).mpr hS)

def S63_ann (p : List Nat) : Option LA :=
  none

def S63_nx (t : Nat) : Option (TypeId × TypeId) := none

def S63 (l_a : Option Addr) (l_l : Nat) (l_c : Nat) (at_ : Int) (w : World) (R : Value → World → Prop) : Prop :=
  cond (decide ((0 : Int) ≤ at_)) (
    R (.bool (decide ((at_ : Int) < ((l_l : Nat) : Int)))) w
  ) (
    R (.bool false) w
  )

theorem S63_eq (l_a : Option Addr) (l_l : Nat) (l_c : Nat) (at_ : Int) (w : World) (R : Value → World → Prop) : Eng.R Try.prog ⟨cal, S63_nx⟩ 13 S63_ann [] (Try.f63.body.getD .skip) (bodyQ Try.prog #[.tmp 4] R) (argE [(.slice l_a l_l l_c), (.int .i64 at_)]) w = S63 l_a l_l l_c at_ w R := by kernel_rfl
/-- A call of 'carfax/net.has[[]byte]', by its condition. -/
theorem S63_calls {l_a : Option Addr} {l_l : Nat} {l_c : Nat} {at_ : Int} {w : World} {R : Value → World → Prop} (hS : S63 l_a l_l l_c at_ w R) : Ret Try.prog 63 [(.slice l_a l_l l_c), (.int .i64 at_)] w R :=
  R_calls (C := ⟨cal, S63_nx⟩) cal_ok follows Try.func63 (c := Try.f63.body.getD .skip) (res := #[.tmp 4]) (n := 13) (by kernel_rfl) (by kernel_rfl) (by kernel_rfl) (by kernel_rfl) ((S63_eq l_a l_l l_c at_ w R).mpr hS)

def S64_ann (p : List Nat) : Option LA :=
  none

def S64_nx (t : Nat) : Option (TypeId × TypeId) := none

def S64_k3 (n_ : Int) (t34 : Bool) (w : World) (R : Value → World → Prop) : Prop :=
  cond t34 (
    R (.int .i64 0) w
  ) (
    R (.int .i64 n_) w
  )

def S64_k2 (b_a : Option Addr) (b_l : Nat) (b_c : Nat) (n_ : Int) (w : World) (R : Value → World → Prop) : Prop :=
  0 ≤ (n_ : Int) ∧
  (n_ : Int) ≤ ((b_c : Nat) : Int) ∧
  0 ≤ ((IntKind.i64.wrap (n_ - 2)) : Int) ∧
  ((IntKind.i64.wrap (n_ - 2)) : Int) ≤ (((Int.toNat n_) : Nat) : Int) ∧
  0 ≤ ((IntKind.i64.wrap (n_ - 2)) : Int) ∧
  ((IntKind.i64.wrap (n_ - 2)) : Int) ≤ ((b_c : Nat) : Int) ∧
  Calls Try.prog 50 ⟨[(.slice (slAddr b_a b_c (Int.toNat (IntKind.i64.wrap (n_ - 2))) 1) ((Int.toNat n_) - (Int.toNat (IntKind.i64.wrap (n_ - 2)))) (b_c - (Int.toNat (IntKind.i64.wrap (n_ - 2)))))]⟩ w.drew fun e w_ =>
    ∃ (t26 : Option Addr),
    e = .returned (.pointer t26) ∧
    Calls Try.prog 52 ⟨[(.pointer t26), (.int .i64 16)]⟩ w_ fun e w__1 =>
      ∃ (t27 : Int),
      e = .returned (.int .u64 t27) ∧
      Calls Try.prog 67 ⟨[(.slice (slAddr b_a b_c 0 1) ((Int.toNat (IntKind.i64.wrap (n_ - 2))) - 0) (b_c - 0))]⟩ w__1 fun e w__2 =>
        ∃ (t32 : Int),
        e = .returned (.int .u16 t32) ∧
        S64_k3 n_ (!decide ((t27 : Int) = (IntKind.u64.wrap t32))) w__2 R

def S64_k1 (b_a : Option Addr) (b_l : Nat) (b_c : Nat) (n_ : Int) (t20 : Bool) (w : World) (R : Value → World → Prop) : Prop :=
  cond t20 (
    R (.int .i64 0) w
  ) (
    S64_k2 b_a b_l b_c n_ w R
  )

def S64_k0 (b_a : Option Addr) (b_l : Nat) (b_c : Nat) (w : World) (R : Value → World → Prop) : Prop :=
  0 ≤ (2 : Int) ∧
  (2 : Int) ≤ ((b_c : Nat) : Int) ∧
  Calls Try.prog 50 ⟨[(.slice (slAddr b_a b_c 0 1) ((Int.toNat 2) - 0) (b_c - 0))]⟩ w fun e w_ =>
    ∃ (t9 : Option Addr),
    e = .returned (.pointer t9) ∧
    Calls Try.prog 52 ⟨[(.pointer t9), (.int .i64 16)]⟩ w_ fun e w__1 =>
      ∃ (t10 : Int),
      e = .returned (.int .u64 t10) ∧
      cond (decide ((((b_l : Nat) : Int) : Int) < (IntKind.i64.wrap ((IntKind.i64.wrap t10) + 4)))) (
        S64_k1 b_a b_l b_c (IntKind.i64.wrap ((IntKind.i64.wrap t10) + 4)) true w__1 R
      ) (
        S64_k1 b_a b_l b_c (IntKind.i64.wrap ((IntKind.i64.wrap t10) + 4)) (decide ((1004 : Int) < (IntKind.i64.wrap ((IntKind.i64.wrap t10) + 4)))) w__1 R
      )

def S64 (b_a : Option Addr) (b_l : Nat) (b_c : Nat) (w : World) (R : Value → World → Prop) : Prop :=
  cond (decide ((((b_l : Nat) : Int) : Int) < 4)) (
    R (.int .i64 0) w
  ) (
    S64_k0 b_a b_l b_c w R
  )

theorem S64_eq (b_a : Option Addr) (b_l : Nat) (b_c : Nat) (w : World) (R : Value → World → Prop) : Eng.R Try.prog ⟨cal, S64_nx⟩ 36 S64_ann [] (Try.f64.body.getD .skip) (bodyQ Try.prog #[.tmp 2] R) (argE [(.slice b_a b_l b_c)]) w = S64 b_a b_l b_c w R := by kernel_rfl
/-- A call of 'carfax/check.size', by its condition. -/
theorem S64_calls {b_a : Option Addr} {b_l : Nat} {b_c : Nat} {w : World} {R : Value → World → Prop} (hS : S64 b_a b_l b_c w R) : Ret Try.prog 64 [(.slice b_a b_l b_c)] w R :=
  R_calls (C := ⟨cal, S64_nx⟩) cal_ok follows Try.func64 (c := Try.f64.body.getD .skip) (res := #[.tmp 2]) (n := 36) (by kernel_rfl) (by kernel_rfl) (by kernel_rfl) (by kernel_rfl) ((S64_eq b_a b_l b_c w R).mpr hS)

def S65_ann (p : List Nat) : Option LA :=
  none

def S65_nx (t : Nat) : Option (TypeId × TypeId) := none

def S65 (d : Option Addr) (w : World) (R : Value → World → Prop) : Prop :=
  cond (Option.isNone d) (
    R (.int .i64 2) w
  ) (
    ∃ (t8 : Addr),
    d = some t8 ∧
    ∃ (t10 : Bool),
    w.cell? (t8.add 2) = some (.bool t10) ∧
    cond t10 (
      R (.int .i64 5) w
    ) (
      ∃ (t13 : Addr),
      d = some t13 ∧
      ∃ (t15 : Int),
      w.cell? (t13.add 3) = some (.int .i64 t15) ∧
      cond (decide ((t15 : Int) = 0)) (
        ∃ (t19 : Addr),
        d = some t19 ∧
        (∃ u, w.cell? (t19.add 2) = some u) ∧
        w.frozen? (t19.add 2) = false ∧
        ∃ (t21 : Addr),
        d = some t21 ∧
        (∃ u, (w.setCell (t19.add 2) (.bool true)).cell? (t21.add 3) = some u) ∧
        (w.setCell (t19.add 2) (.bool true)).frozen? (t21.add 3) = false ∧
        R (.int .i64 5) ((w.setCell (t19.add 2) (.bool true)).setCell (t21.add 3) (.int .i64 (-1)))
      ) (
        ∃ (t25 : Addr),
        d = some t25 ∧
        ∃ (t27 : Int),
        w.cell? (t25.add 3) = some (.int .i64 t27) ∧
        cond (decide ((0 : Int) < t27)) (
          ∃ (t30 : Addr),
          d = some t30 ∧
          ∃ (t32 : Int),
          w.cell? (t30.add 3) = some (.int .i64 t32) ∧
          ∃ (t34 : Addr),
          d = some t34 ∧
          (∃ u, w.cell? (t34.add 3) = some u) ∧
          w.frozen? (t34.add 3) = false ∧
          R (.int .i64 0) (w.setCell (t34.add 3) (.int .i64 (IntKind.i64.wrap (t32 - 1))))
        ) (
          R (.int .i64 0) w
        )
      )
    )
  )

theorem S65_eq (d : Option Addr) (w : World) (R : Value → World → Prop) : Eng.R Try.prog ⟨cal, S65_nx⟩ 36 S65_ann [] (Try.f65.body.getD .skip) (bodyQ Try.prog #[.tmp 2] R) (argE [(.pointer d)]) w = S65 d w R := by kernel_rfl
/-- A call of '(*carfax/disk.Disk).power', by its condition. -/
theorem S65_calls {d : Option Addr} {w : World} {R : Value → World → Prop} (hS : S65 d w R) : Ret Try.prog 65 [(.pointer d)] w R :=
  R_calls (C := ⟨cal, S65_nx⟩) cal_ok follows Try.func65 (c := Try.f65.body.getD .skip) (res := #[.tmp 2]) (n := 36) (by kernel_rfl) (by kernel_rfl) (by kernel_rfl) (by kernel_rfl) ((S65_eq d w R).mpr hS)

def S66_ann (p : List Nat) : Option LA :=
  none

def S66_nx (t : Nat) : Option (TypeId × TypeId) := none

def S66_k2 (x : Int) (n_ : Int) (w : World) (R : Value → World → Prop) : Prop :=
  ∃ (t22 : UInt8),
  0 ≤ ((IntKind.u8.wrap x) : Int) ∧
  ((⟨#[0, 1, 2, 2, 3, 3, 3, 3, 4, 4, 4, 4, 4, 4, 4, 4, 5, 5, 5, 5, 5, 5, 5, 5, 5, 5, 5, 5, 5, 5, 5, 5, 6, 6, 6, 6, 6, 6, 6, 6, 6, 6, 6, 6, 6, 6, 6, 6, 6, 6, 6, 6, 6, 6, 6, 6, 6, 6, 6, 6, 6, 6, 6, 6, 7, 7, 7, 7, 7, 7, 7, 7, 7, 7, 7, 7, 7, 7, 7, 7, 7, 7, 7, 7, 7, 7, 7, 7, 7, 7, 7, 7, 7, 7, 7, 7, 7, 7, 7, 7, 7, 7, 7, 7, 7, 7, 7, 7, 7, 7, 7, 7, 7, 7, 7, 7, 7, 7, 7, 7, 7, 7, 7, 7, 7, 7, 7, 7, 8, 8, 8, 8, 8, 8, 8, 8, 8, 8, 8, 8, 8, 8, 8, 8, 8, 8, 8, 8, 8, 8, 8, 8, 8, 8, 8, 8, 8, 8, 8, 8, 8, 8, 8, 8, 8, 8, 8, 8, 8, 8, 8, 8, 8, 8, 8, 8, 8, 8, 8, 8, 8, 8, 8, 8, 8, 8, 8, 8, 8, 8, 8, 8, 8, 8, 8, 8, 8, 8, 8, 8, 8, 8, 8, 8, 8, 8, 8, 8, 8, 8, 8, 8, 8, 8, 8, 8, 8, 8, 8, 8, 8, 8, 8, 8, 8, 8, 8, 8, 8, 8, 8, 8, 8, 8, 8, 8, 8, 8, 8, 8, 8, 8, 8, 8, 8, 8, 8, 8, 8, 8, 8, 8, 8, 8, 8, 8]⟩ : ByteArray))[Int.toNat (IntKind.u8.wrap x)]? = some t22 ∧
  R (.int .i64 (IntKind.i64.wrap (n_ + (IntKind.i64.wrap (t22.toNat : Int))))) w

def S66_k1 (x : Int) (n_ : Int) (w : World) (R : Value → World → Prop) : Prop :=
  cond (decide ((256 : Int) ≤ x)) (
    0 ≤ (8 : Int) ∧
    S66_k2 (Int.fdiv x (2 ^ (min (Int.toNat 8) (IntKind.u64.bits)))) (IntKind.i64.wrap (n_ + 8)) w R
  ) (
    S66_k2 x n_ w R
  )

def S66_k0 (x : Int) (n_ : Int) (w : World) (R : Value → World → Prop) : Prop :=
  cond (decide ((65536 : Int) ≤ x)) (
    0 ≤ (16 : Int) ∧
    S66_k1 (Int.fdiv x (2 ^ (min (Int.toNat 16) (IntKind.u64.bits)))) (IntKind.i64.wrap (n_ + 16)) w R
  ) (
    S66_k1 x n_ w R
  )

def S66 (x : Int) (w : World) (R : Value → World → Prop) : Prop :=
  cond (decide ((4294967296 : Int) ≤ x)) (
    0 ≤ (32 : Int) ∧
    S66_k0 (Int.fdiv x (2 ^ (min (Int.toNat 32) (IntKind.u64.bits)))) 32 w R
  ) (
    S66_k0 x 0 w R
  )

theorem S66_eq (x : Int) (w : World) (R : Value → World → Prop) : Eng.R Try.prog ⟨cal, S66_nx⟩ 25 S66_ann [] (Try.f66.body.getD .skip) (bodyQ Try.prog #[.tmp 2] R) (argE [(.int .u64 x)]) w = S66 x w R := by kernel_rfl
/-- A call of 'math/bits.Len64', by its condition. -/
theorem S66_calls {x : Int} {w : World} {R : Value → World → Prop} (hS : S66 x w R) : Ret Try.prog 66 [(.int .u64 x)] w R :=
  R_calls (C := ⟨cal, S66_nx⟩) cal_ok follows Try.func66 (c := Try.f66.body.getD .skip) (res := #[.tmp 2]) (n := 25) (by kernel_rfl) (by kernel_rfl) (by kernel_rfl) (by kernel_rfl) ((S66_eq x w R).mpr hS)

def S67_ann (p : List Nat) : Option LA := match p with
  | [0, 1, 0, 1, 1] => some ⟨[7, 8], [(3, .one (.int .u16)), (9, .one (.int .i64))]⟩
  | _ => none

def S67_nx (t : Nat) : Option (TypeId × TypeId) := none

def S67_k1 (r : Int) (t7_a : Option Addr) (t7_l : Nat) (t7_c : Nat) (t8 : Int) (t9 : Int) (w : World) (R : Value → World → Prop) (B1 : (Int) × (Int) × Unit → World → Prop) : Prop :=
  ∃ (t11 : Addr),
  t7_a = some t11 ∧
  0 ≤ (t9 : Int) ∧
  (t9 : Int) < ((t7_l : Nat) : Int) ∧
  ∃ (t12 : Int),
  w.cell? (t11.add (Int.toNat t9 * 1)) = some (.int .u8 t12) ∧
  0 ≤ (8 : Int) ∧
  0 ≤ (4 : Int) ∧
  0 ≤ (8 : Int) ∧
  0 ≤ (12 : Int) ∧
  0 ≤ (5 : Int) ∧
  B1 ((bitsI .xor .u16 (bitsI .xor .u16 (bitsI .xor .u16 (IntKind.u16.wrap (r * 2 ^ (min (Int.toNat 8) (IntKind.u16.bits)))) (IntKind.u16.wrap ((IntKind.u16.wrap (bitsI .xor .u8 (bitsI .xor .u8 (IntKind.u8.wrap (Int.fdiv r (2 ^ (min (Int.toNat 8) (IntKind.u16.bits))))) t12) (Int.fdiv (bitsI .xor .u8 (IntKind.u8.wrap (Int.fdiv r (2 ^ (min (Int.toNat 8) (IntKind.u16.bits))))) t12) (2 ^ (min (Int.toNat 4) (IntKind.u8.bits)))))) * 2 ^ (min (Int.toNat 12) (IntKind.u16.bits))))) (IntKind.u16.wrap ((IntKind.u16.wrap (bitsI .xor .u8 (bitsI .xor .u8 (IntKind.u8.wrap (Int.fdiv r (2 ^ (min (Int.toNat 8) (IntKind.u16.bits))))) t12) (Int.fdiv (bitsI .xor .u8 (IntKind.u8.wrap (Int.fdiv r (2 ^ (min (Int.toNat 8) (IntKind.u16.bits))))) t12) (2 ^ (min (Int.toNat 4) (IntKind.u8.bits)))))) * 2 ^ (min (Int.toNat 5) (IntKind.u16.bits))))) (IntKind.u16.wrap (bitsI .xor .u8 (bitsI .xor .u8 (IntKind.u8.wrap (Int.fdiv r (2 ^ (min (Int.toNat 8) (IntKind.u16.bits))))) t12) (Int.fdiv (bitsI .xor .u8 (IntKind.u8.wrap (Int.fdiv r (2 ^ (min (Int.toNat 8) (IntKind.u16.bits))))) t12) (2 ^ (min (Int.toNat 4) (IntKind.u8.bits))))))), (IntKind.i64.wrap (t9 + 1)), ()) w

def S67_L0 (r : Int) (t7_a : Option Addr) (t7_l : Nat) (t7_c : Nat) (t8 : Int) (t9 : Int) (w : World) (R : Value → World → Prop) (B1 : (Int) × (Int) × Unit → World → Prop) : Prop :=
  cond (decide ((t9 : Int) < t8)) (
    S67_k1 r t7_a t7_l t7_c t8 t9 w R B1
  ) (
    R (.int .u16 r) w
  )

def S67 (b_a : Option Addr) (b_l : Nat) (b_c : Nat) (w : World) (R : Value → World → Prop) : Prop :=
  ∃ (I : (Int) × (Int) × Unit → World → Prop) (μ : (Int) × (Int) × Unit → World → Nat),
  I (65535, 0, ()) w ∧
  ∀ (J : Env) (s : (Int) × (Int) × Unit) (w' : World), I s w' →
    S67_L0 s.1 b_a b_l b_c ((b_l : Nat) : Int) s.2.1 w' R (fun s' w'' => I s' w'' ∧ μ s' w'' < μ s w')

theorem S67_eq (b_a : Option Addr) (b_l : Nat) (b_c : Nat) (w : World) (R : Value → World → Prop) : Eng.R Try.prog ⟨cal, S67_nx⟩ 37 S67_ann [] (Try.f67.body.getD .skip) (bodyQ Try.prog #[.tmp 2] R) (argE [(.slice b_a b_l b_c)]) w = S67 b_a b_l b_c w R := by kernel_rfl
/-- A call of 'carfax/check.Sum', by its condition. -/
theorem S67_calls {b_a : Option Addr} {b_l : Nat} {b_c : Nat} {w : World} {R : Value → World → Prop} (hS : S67 b_a b_l b_c w R) : Ret Try.prog 67 [(.slice b_a b_l b_c)] w R :=
  R_calls (C := ⟨cal, S67_nx⟩) cal_ok follows Try.func67 (c := Try.f67.body.getD .skip) (res := #[.tmp 2]) (n := 37) (by kernel_rfl) (by kernel_rfl) (by kernel_rfl) (by kernel_rfl) ((S67_eq b_a b_l b_c w R).mpr hS)

def S68_ann (p : List Nat) : Option LA :=
  none

def S68_nx (t : Nat) : Option (TypeId × TypeId) := none

def S68 (r : Option Addr) (ahead : Int) (w : World) (R : Value → World → Prop) : Prop :=
  ∃ (t7 : Addr),
  r = some t7 ∧
  ∃ (t9 : Int),
  w.cell? (t7.add 1) = some (.int .i64 t9) ∧
  ∃ (t13 : Addr),
  r = some t13 ∧
  ∃ (t15_a : Option Addr) (t15_l : Nat) (t15_c : Nat),
  w.cell? t13 = some (.slice t15_a t15_l t15_c) ∧
  (8 : Int) ≠ 0 ∧
  ∃ (t18 : Addr),
  t15_a = some t18 ∧
  0 ≤ ((IntKind.i64.wrap (Int.tdiv (IntKind.i64.wrap (t9 + ahead)) 8)) : Int) ∧
  ((IntKind.i64.wrap (Int.tdiv (IntKind.i64.wrap (t9 + ahead)) 8)) : Int) < ((t15_l : Nat) : Int) ∧
  ∃ (t19 : Int),
  w.cell? (t18.add (Int.toNat (IntKind.i64.wrap (Int.tdiv (IntKind.i64.wrap (t9 + ahead)) 8)) * 1)) = some (.int .u8 t19) ∧
  (8 : Int) ≠ 0 ∧
  0 ≤ ((IntKind.i64.wrap (7 - (Int.tmod (IntKind.i64.wrap (t9 + ahead)) 8))) : Int) ∧
  R (.bool (decide (((bitsI .and .u8 (Int.fdiv t19 (2 ^ (min (Int.toNat (IntKind.i64.wrap (7 - (Int.tmod (IntKind.i64.wrap (t9 + ahead)) 8)))) (IntKind.u8.bits)))) 1) : Int) = 1))) w

theorem S68_eq (r : Option Addr) (ahead : Int) (w : World) (R : Value → World → Prop) : Eng.R Try.prog ⟨cal, S68_nx⟩ 26 S68_ann [] (Try.f68.body.getD .skip) (bodyQ Try.prog #[.tmp 4] R) (argE [(.pointer r), (.int .i64 ahead)]) w = S68 r ahead w R := by kernel_rfl
/-- A call of '(*carfax/bits.Reader).one', by its condition. -/
theorem S68_calls {r : Option Addr} {ahead : Int} {w : World} {R : Value → World → Prop} (hS : S68 r ahead w R) : Ret Try.prog 68 [(.pointer r), (.int .i64 ahead)] w R :=
  R_calls (C := ⟨cal, S68_nx⟩) cal_ok follows Try.func68 (c := Try.f68.body.getD .skip) (res := #[.tmp 4]) (n := 26) (by kernel_rfl) (by kernel_rfl) (by kernel_rfl) (by kernel_rfl) ((S68_eq r ahead w R).mpr hS)

def S69_ann (p : List Nat) : Option LA :=
  none

def S69_nx (t : Nat) : Option (TypeId × TypeId) := none

def S69_k1 (w_ : Option Addr) (w : World) (R : Value → World → Prop) : Prop :=
  ∃ (t40 : Addr),
  w_ = some t40 ∧
  ∃ (t42 : Int),
  w.cell? (t40.add 1) = some (.int .i64 t42) ∧
  ∃ (t44 : Addr),
  w_ = some t44 ∧
  (∃ u, w.cell? (t44.add 1) = some u) ∧
  w.frozen? (t44.add 1) = false ∧
  R (.tuple ⟨[]⟩) (w.setCell (t44.add 1) (.int .i64 (IntKind.i64.wrap (t42 + 1))))

def S69_k0 (w_ : Option Addr) (one : Bool) (w : World) (R : Value → World → Prop) : Prop :=
  cond one (
    ∃ (t21 : Addr),
    w_ = some t21 ∧
    ∃ (t25 : Addr),
    w_ = some t25 ∧
    ∃ (t32 : Addr),
    w_ = some t32 ∧
    (
      ∃ (t23_a : Option Addr) (t23_l : Nat) (t23_c : Nat),
      w.drew.cell? t21 = some (.slice t23_a t23_l t23_c) ∧
      (
        ∃ (t27 : Int),
        w.drew.cell? (t25.add 1) = some (.int .i64 t27) ∧
        (8 : Int) ≠ 0 ∧
        ∃ (t29 : Addr),
        t23_a = some t29 ∧
        0 ≤ ((IntKind.i64.wrap (Int.tdiv t27 8)) : Int) ∧
        ((IntKind.i64.wrap (Int.tdiv t27 8)) : Int) < ((t23_l : Nat) : Int) ∧
        ∃ (t34 : Int),
        w.drew.cell? (t32.add 1) = some (.int .i64 t34) ∧
        (8 : Int) ≠ 0 ∧
        0 ≤ ((Int.tmod t34 8) : Int) ∧
        ∃ (t30 : Int),
        w.drew.cell? (t29.add (Int.toNat (IntKind.i64.wrap (Int.tdiv t27 8)) * 1)) = some (.int .u8 t30) ∧
        ∃ (t38 : Addr),
        t23_a = some t38 ∧
        0 ≤ ((IntKind.i64.wrap (Int.tdiv t27 8)) : Int) ∧
        ((IntKind.i64.wrap (Int.tdiv t27 8)) : Int) < ((t23_l : Nat) : Int) ∧
        (∃ u, w.drew.cell? (t38.add (Int.toNat (IntKind.i64.wrap (Int.tdiv t27 8)) * 1)) = some u) ∧
        w.drew.frozen? (t38.add (Int.toNat (IntKind.i64.wrap (Int.tdiv t27 8)) * 1)) = false ∧
        S69_k1 w_ (w.drew.setCell (t38.add (Int.toNat (IntKind.i64.wrap (Int.tdiv t27 8)) * 1)) (.int .u8 (bitsI .or .u8 t30 (Int.fdiv 128 (2 ^ (min (Int.toNat (Int.tmod t34 8)) (IntKind.u8.bits))))))) R
      ) ∧
      (
        ∃ (t34_1 : Int),
        w.drew.cell? (t32.add 1) = some (.int .i64 t34_1) ∧
        (8 : Int) ≠ 0 ∧
        0 ≤ ((Int.tmod t34_1 8) : Int) ∧
        ∃ (t27_1 : Int),
        w.drew.cell? (t25.add 1) = some (.int .i64 t27_1) ∧
        (8 : Int) ≠ 0 ∧
        ∃ (t29_1 : Addr),
        t23_a = some t29_1 ∧
        0 ≤ ((IntKind.i64.wrap (Int.tdiv t27_1 8)) : Int) ∧
        ((IntKind.i64.wrap (Int.tdiv t27_1 8)) : Int) < ((t23_l : Nat) : Int) ∧
        ∃ (t30_1 : Int),
        w.drew.cell? (t29_1.add (Int.toNat (IntKind.i64.wrap (Int.tdiv t27_1 8)) * 1)) = some (.int .u8 t30_1) ∧
        ∃ (t38_1 : Addr),
        t23_a = some t38_1 ∧
        0 ≤ ((IntKind.i64.wrap (Int.tdiv t27_1 8)) : Int) ∧
        ((IntKind.i64.wrap (Int.tdiv t27_1 8)) : Int) < ((t23_l : Nat) : Int) ∧
        (∃ u, w.drew.cell? (t38_1.add (Int.toNat (IntKind.i64.wrap (Int.tdiv t27_1 8)) * 1)) = some u) ∧
        w.drew.frozen? (t38_1.add (Int.toNat (IntKind.i64.wrap (Int.tdiv t27_1 8)) * 1)) = false ∧
        S69_k1 w_ (w.drew.setCell (t38_1.add (Int.toNat (IntKind.i64.wrap (Int.tdiv t27_1 8)) * 1)) (.int .u8 (bitsI .or .u8 t30_1 (Int.fdiv 128 (2 ^ (min (Int.toNat (Int.tmod t34_1 8)) (IntKind.u8.bits))))))) R
      )
    ) ∧
    (
      ∃ (t27_2 : Int),
      w.drew.cell? (t25.add 1) = some (.int .i64 t27_2) ∧
      (8 : Int) ≠ 0 ∧
      ∃ (t34_2 : Int),
      w.drew.cell? (t32.add 1) = some (.int .i64 t34_2) ∧
      (8 : Int) ≠ 0 ∧
      0 ≤ ((Int.tmod t34_2 8) : Int) ∧
      ∃ (t23_a_1 : Option Addr) (t23_l_1 : Nat) (t23_c_1 : Nat),
      w.drew.cell? t21 = some (.slice t23_a_1 t23_l_1 t23_c_1) ∧
      ∃ (t29_2 : Addr),
      t23_a_1 = some t29_2 ∧
      0 ≤ ((IntKind.i64.wrap (Int.tdiv t27_2 8)) : Int) ∧
      ((IntKind.i64.wrap (Int.tdiv t27_2 8)) : Int) < ((t23_l_1 : Nat) : Int) ∧
      ∃ (t30_2 : Int),
      w.drew.cell? (t29_2.add (Int.toNat (IntKind.i64.wrap (Int.tdiv t27_2 8)) * 1)) = some (.int .u8 t30_2) ∧
      ∃ (t38_2 : Addr),
      t23_a_1 = some t38_2 ∧
      0 ≤ ((IntKind.i64.wrap (Int.tdiv t27_2 8)) : Int) ∧
      ((IntKind.i64.wrap (Int.tdiv t27_2 8)) : Int) < ((t23_l_1 : Nat) : Int) ∧
      (∃ u, w.drew.cell? (t38_2.add (Int.toNat (IntKind.i64.wrap (Int.tdiv t27_2 8)) * 1)) = some u) ∧
      w.drew.frozen? (t38_2.add (Int.toNat (IntKind.i64.wrap (Int.tdiv t27_2 8)) * 1)) = false ∧
      S69_k1 w_ (w.drew.setCell (t38_2.add (Int.toNat (IntKind.i64.wrap (Int.tdiv t27_2 8)) * 1)) (.int .u8 (bitsI .or .u8 t30_2 (Int.fdiv 128 (2 ^ (min (Int.toNat (Int.tmod t34_2 8)) (IntKind.u8.bits))))))) R
    ) ∧
    (
      ∃ (t34_3 : Int),
      w.drew.cell? (t32.add 1) = some (.int .i64 t34_3) ∧
      (8 : Int) ≠ 0 ∧
      0 ≤ ((Int.tmod t34_3 8) : Int) ∧
      ∃ (t27_3 : Int),
      w.drew.cell? (t25.add 1) = some (.int .i64 t27_3) ∧
      (8 : Int) ≠ 0 ∧
      ∃ (t23_a_2 : Option Addr) (t23_l_2 : Nat) (t23_c_2 : Nat),
      w.drew.cell? t21 = some (.slice t23_a_2 t23_l_2 t23_c_2) ∧
      ∃ (t29_3 : Addr),
      t23_a_2 = some t29_3 ∧
      0 ≤ ((IntKind.i64.wrap (Int.tdiv t27_3 8)) : Int) ∧
      ((IntKind.i64.wrap (Int.tdiv t27_3 8)) : Int) < ((t23_l_2 : Nat) : Int) ∧
      ∃ (t30_3 : Int),
      w.drew.cell? (t29_3.add (Int.toNat (IntKind.i64.wrap (Int.tdiv t27_3 8)) * 1)) = some (.int .u8 t30_3) ∧
      ∃ (t38_3 : Addr),
      t23_a_2 = some t38_3 ∧
      0 ≤ ((IntKind.i64.wrap (Int.tdiv t27_3 8)) : Int) ∧
      ((IntKind.i64.wrap (Int.tdiv t27_3 8)) : Int) < ((t23_l_2 : Nat) : Int) ∧
      (∃ u, w.drew.cell? (t38_3.add (Int.toNat (IntKind.i64.wrap (Int.tdiv t27_3 8)) * 1)) = some u) ∧
      w.drew.frozen? (t38_3.add (Int.toNat (IntKind.i64.wrap (Int.tdiv t27_3 8)) * 1)) = false ∧
      S69_k1 w_ (w.drew.setCell (t38_3.add (Int.toNat (IntKind.i64.wrap (Int.tdiv t27_3 8)) * 1)) (.int .u8 (bitsI .or .u8 t30_3 (Int.fdiv 128 (2 ^ (min (Int.toNat (Int.tmod t34_3 8)) (IntKind.u8.bits))))))) R
    )
  ) (
    S69_k1 w_ w R
  )

def S69 (w_ : Option Addr) (one : Bool) (w : World) (R : Value → World → Prop) : Prop :=
  ∃ (t5 : Addr),
  w_ = some t5 ∧
  ∃ (t7 : Int),
  w.cell? (t5.add 1) = some (.int .i64 t7) ∧
  (8 : Int) ≠ 0 ∧
  cond (decide (((Int.tmod t7 8) : Int) = 0)) (
    ∃ (t12 : Addr),
    w_ = some t12 ∧
    ∃ (t14_a : Option Addr) (t14_l : Nat) (t14_c : Nat),
    w.cell? t12 = some (.slice t14_a t14_l t14_c) ∧
    ∃ (t16_a : Option Addr) (t16_l : Nat) (t16_c : Nat) (w__1 : World),
    (Builtin.append_ #[36, 36] 36 ⟨[(.slice t14_a t14_l t14_c), (.slice (some ⟨w.heap.size, 0, none⟩) 1 1)]⟩).run Try.prog (w.alloc (.cells ⟨[(.int .u8 0)]⟩ 5)) = .ok (.slice t16_a t16_l t16_c) w__1 ∧
    ∃ (t17 : Addr),
    w_ = some t17 ∧
    (∃ u, w__1.cell? t17 = some u) ∧
    w__1.frozen? t17 = false ∧
    S69_k0 w_ one (w__1.setCell t17 (.slice t16_a t16_l t16_c)) R
  ) (
    S69_k0 w_ one w R
  )

theorem S69_eq (w_ : Option Addr) (one : Bool) (w : World) (R : Value → World → Prop) : Eng.R Try.prog ⟨cal, S69_nx⟩ 46 S69_ann [] (Try.f69.body.getD .skip) (bodyQ Try.prog #[] R) (argE [(.pointer w_), (.bool one)]) w = S69 w_ one w R := by kernel_rfl
/-- A call of '(*carfax/bits.Writer).bit', by its condition. -/
theorem S69_calls {w_ : Option Addr} {one : Bool} {w : World} {R : Value → World → Prop} (hS : S69 w_ one w R) : Ret Try.prog 69 [(.pointer w_), (.bool one)] w R :=
  R_calls (C := ⟨cal, S69_nx⟩) cal_ok follows Try.func69 (c := Try.f69.body.getD .skip) (res := #[]) (n := 46) (by kernel_rfl) (by kernel_rfl) (by kernel_rfl) (by kernel_rfl) ((S69_eq w_ one w R).mpr hS)

end Go.Proofs
