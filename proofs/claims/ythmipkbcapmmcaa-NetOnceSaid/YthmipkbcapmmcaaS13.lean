import Derived.Test.YthmipkbcapmmcaaProg
import Derived.Test.YthmipkbcapmmcaaEng8
set_option linter.unusedVariables false
set_option maxRecDepth 100000
namespace Go.Proofs
open Go Go.Eng
def cal (f : FuncId) : Bool := Nat.ble 3 f && Nat.blt f 22
theorem cal_all : (List.range 22).all (fun f => !cal f || callable Try.prog f) = true := by kernel_rfl
theorem cal_ok (f : FuncId) (h : cal f = true) : callable Try.prog f = true := by
  have hb := h
  simp only [cal, Bool.and_eq_true, Nat.blt_eq] at hb
  have := List.all_eq_true.1 cal_all f (List.mem_range.2 hb.2)
  rw [h] at this
  simpa using this
theorem follows : Try.prog.follows .mixedOrders = true := by kernel_rfl

def S3_ann (p : List Nat) : Option LA := match p with
  | [0, 1, 0, 1, 1, 1, 1, 1, 1] => some ⟨[3, 4, 5, 21, 22], [(6, .one (.int .i64)), (23, .one (.int .i64))]⟩
  | [0, 1, 0, 1, 1, 1, 1, 1, 1, 1] => some ⟨[3, 4, 5, 89], [(90, .one (.int .i64))]⟩
  | _ => none

def S3_nx (t : Nat) : Option (TypeId × TypeId) := none

def S3_k4 (t3 : Bool) (t4 : Option Addr) (t5 : Option Nat) (t6 : Int) (t21_a : Option Addr) (t21_l : Nat) (t21_c : Nat) (t22 : Int) (t23 : Int) (w : World) (R : Value → World → Prop) (B1 : (Int) × (Int) × Unit → World → Prop) : Prop :=
  Calls Try.prog 14 ⟨[(.pointer t4)]⟩ w fun e w_ =>
    ∃ (t85 : Int),
    e = .returned (.int .i64 t85) ∧
    cond (!decide ((t85 : Int) = t6)) (
      R (.bool false) w_
    ) (
      B1 (t6, (IntKind.i64.wrap (t23 + 1)), ()) w_
    )

def S3_k3 (t3 : Bool) (t4 : Option Addr) (t5 : Option Nat) (t6 : Int) (t8 : Addr) (t21_a : Option Addr) (t21_l : Nat) (t21_c : Nat) (t22 : Int) (t23 : Int) (w : World) (R : Value → World → Prop) (B1 : (Int) × (Int) × Unit → World → Prop) : Prop :=
  ∃ (t39_a : Option Addr) (t39_l : Nat) (t39_c : Nat),
  w.cell? (t8.add 1) = some (.slice t39_a t39_l t39_c) ∧
  ∃ (t40 : ByteArray) (w_ : World),
  (convert 28 9 (.slice t39_a t39_l t39_c)).run Try.prog w = .ok (.string t40) w_ ∧
  ∃ (t41 : Int) (w__1 : World),
  (Instr.lookup 26 (.map t5) (.string t40) false).run Try.prog w_ = .ok (.int .i64 t41) w__1 ∧
  ∃ (w__2 : World),
  (Instr.mapUpdate 26 (.map t5) (.string t40) (.int .i64 (IntKind.i64.wrap (t41 + 1)))).run Try.prog w__1 = .ok () w__2 ∧
  S3_k4 t3 t4 t5 (IntKind.i64.wrap (t6 + 1)) t21_a t21_l t21_c t22 t23 w__2 R B1

def S3_k5 (t3 : Bool) (t4 : Option Addr) (t5 : Option Nat) (t6 : Int) (t21_a : Option Addr) (t21_l : Nat) (t21_c : Nat) (t22 : Int) (t23 : Int) (t83 : Bool) (w : World) (R : Value → World → Prop) (B1 : (Int) × (Int) × Unit → World → Prop) : Prop :=
  cond t83 (
    R (.bool false) w
  ) (
    S3_k4 t3 t4 t5 t6 t21_a t21_l t21_c t22 t23 w R B1
  )

def S3_k2 (t3 : Bool) (t4 : Option Addr) (t5 : Option Nat) (t6 : Int) (t21_a : Option Addr) (t21_l : Nat) (t21_c : Nat) (t22 : Int) (t23 : Int) (w : World) (R : Value → World → Prop) (B1 : (Int) × (Int) × Unit → World → Prop) : Prop :=
  ∃ (t25 : Addr),
  t21_a = some t25 ∧
  0 ≤ (t23 : Int) ∧
  (t23 : Int) < ((t21_l : Nat) : Int) ∧
  ∃ (t26_0 : Int),
  w.cell? (t25.add (Int.toNat t23 * 3)) = some (.int .u8 t26_0) ∧
  ∃ (t26_1_a : Option Addr) (t26_1_l : Nat) (t26_1_c : Nat),
  w.cell? ((t25.add (Int.toNat t23 * 3)).add 1) = some (.slice t26_1_a t26_1_l t26_1_c) ∧
  ∃ (t26_2 : Int),
  w.cell? ((t25.add (Int.toNat t23 * 3)).add 2) = some (.int .i64 t26_2) ∧
  (∃ u, (w.alloc (.cells ⟨[(.int .u8 0), (.slice none 0 0), (.int .i64 0)]⟩ 30)).cell? ⟨w.heap.size, 0, none⟩ = some u) ∧
  (w.alloc (.cells ⟨[(.int .u8 0), (.slice none 0 0), (.int .i64 0)]⟩ 30)).frozen? ⟨w.heap.size, 0, none⟩ = false ∧
  (∃ u, ((w.alloc (.cells ⟨[(.int .u8 0), (.slice none 0 0), (.int .i64 0)]⟩ 30)).setCell ⟨w.heap.size, 0, none⟩ (.int .u8 t26_0)).cell? ⟨w.heap.size, 1, none⟩ = some u) ∧
  ((w.alloc (.cells ⟨[(.int .u8 0), (.slice none 0 0), (.int .i64 0)]⟩ 30)).setCell ⟨w.heap.size, 0, none⟩ (.int .u8 t26_0)).frozen? ⟨w.heap.size, 1, none⟩ = false ∧
  (∃ u, (((w.alloc (.cells ⟨[(.int .u8 0), (.slice none 0 0), (.int .i64 0)]⟩ 30)).setCell ⟨w.heap.size, 0, none⟩ (.int .u8 t26_0)).setCell ⟨w.heap.size, 1, none⟩ (.slice t26_1_a t26_1_l t26_1_c)).cell? ⟨w.heap.size, 2, none⟩ = some u) ∧
  (((w.alloc (.cells ⟨[(.int .u8 0), (.slice none 0 0), (.int .i64 0)]⟩ 30)).setCell ⟨w.heap.size, 0, none⟩ (.int .u8 t26_0)).setCell ⟨w.heap.size, 1, none⟩ (.slice t26_1_a t26_1_l t26_1_c)).frozen? ⟨w.heap.size, 2, none⟩ = false ∧
  ∃ (t28 : Int),
  ((((w.alloc (.cells ⟨[(.int .u8 0), (.slice none 0 0), (.int .i64 0)]⟩ 30)).setCell ⟨w.heap.size, 0, none⟩ (.int .u8 t26_0)).setCell ⟨w.heap.size, 1, none⟩ (.slice t26_1_a t26_1_l t26_1_c)).setCell ⟨w.heap.size, 2, none⟩ (.int .i64 t26_2)).cell? ⟨w.heap.size, 0, none⟩ = some (.int .u8 t28) ∧
  (5 : Int) ≠ 0 ∧
  cond (decide (((Int.tmod t28 5) : Int) = 0)) (
    ∃ (t34_a : Option Addr) (t34_l : Nat) (t34_c : Nat),
    ((((w.alloc (.cells ⟨[(.int .u8 0), (.slice none 0 0), (.int .i64 0)]⟩ 30)).setCell ⟨w.heap.size, 0, none⟩ (.int .u8 t26_0)).setCell ⟨w.heap.size, 1, none⟩ (.slice t26_1_a t26_1_l t26_1_c)).setCell ⟨w.heap.size, 2, none⟩ (.int .i64 t26_2)).cell? ⟨w.heap.size, 1, none⟩ = some (.slice t34_a t34_l t34_c) ∧
    Calls Try.prog 11 ⟨[(.pointer t4), (.slice t34_a t34_l t34_c)]⟩ ((((w.alloc (.cells ⟨[(.int .u8 0), (.slice none 0 0), (.int .i64 0)]⟩ 30)).setCell ⟨w.heap.size, 0, none⟩ (.int .u8 t26_0)).setCell ⟨w.heap.size, 1, none⟩ (.slice t26_1_a t26_1_l t26_1_c)).setCell ⟨w.heap.size, 2, none⟩ (.int .i64 t26_2)) fun e w_ =>
      ∃ (t35 : Int),
      e = .returned (.int .i64 t35) ∧
      cond (!decide ((t35 : Int) = 0)) (
        R (.bool false) w_
      ) (
        S3_k3 t3 t4 t5 t6 ⟨w.heap.size, 0, none⟩ t21_a t21_l t21_c t22 t23 w_ R B1
      )
  ) (
    cond (decide (((Int.tmod t28 5) : Int) = 1)) (
      ∃ (t50 : Int),
      ((((w.alloc (.cells ⟨[(.int .u8 0), (.slice none 0 0), (.int .i64 0)]⟩ 30)).setCell ⟨w.heap.size, 0, none⟩ (.int .u8 t26_0)).setCell ⟨w.heap.size, 1, none⟩ (.slice t26_1_a t26_1_l t26_1_c)).setCell ⟨w.heap.size, 2, none⟩ (.int .i64 t26_2)).cell? ⟨w.heap.size, 2, none⟩ = some (.int .i64 t50) ∧
      Calls Try.prog 12 ⟨[(.pointer t4), (.int .i64 t50)]⟩ ((((w.alloc (.cells ⟨[(.int .u8 0), (.slice none 0 0), (.int .i64 0)]⟩ 30)).setCell ⟨w.heap.size, 0, none⟩ (.int .u8 t26_0)).setCell ⟨w.heap.size, 1, none⟩ (.slice t26_1_a t26_1_l t26_1_c)).setCell ⟨w.heap.size, 2, none⟩ (.int .i64 t26_2)) fun e w__1 =>
        ∃ (t51_0_a : Option Addr) (t51_0_l : Nat) (t51_0_c : Nat) (t51_1 : Bool),
        e = .returned (.tuple ⟨[(.slice t51_0_a t51_0_l t51_0_c), (.bool t51_1)]⟩) ∧
        cond t51_1 (
          ∃ (t57 : ByteArray) (w__2 : World),
          (convert 28 9 (.slice t51_0_a t51_0_l t51_0_c)).run Try.prog w__1 = .ok (.string t57) w__2 ∧
          ∃ (t58 : Int) (w__3 : World),
          (Instr.lookup 26 (.map t5) (.string t57) false).run Try.prog w__2 = .ok (.int .i64 t58) w__3 ∧
          ∃ (w__4 : World),
          (Instr.mapUpdate 26 (.map t5) (.string t57) (.int .i64 (IntKind.i64.wrap (t58 - 1)))).run Try.prog w__3 = .ok () w__4 ∧
          ∃ (t64 : ByteArray) (w__5 : World),
          (convert 28 9 (.slice t51_0_a t51_0_l t51_0_c)).run Try.prog w__4 = .ok (.string t64) w__5 ∧
          ∃ (t65 : Int) (w__6 : World),
          (Instr.lookup 26 (.map t5) (.string t64) false).run Try.prog w__5 = .ok (.int .i64 t65) w__6 ∧
          cond (decide ((t65 : Int) < 0)) (
            R (.bool false) w__6
          ) (
            S3_k4 t3 t4 t5 (IntKind.i64.wrap (t6 - 1)) t21_a t21_l t21_c t22 t23 w__6 R B1
          )
        ) (
          S3_k4 t3 t4 t5 t6 t21_a t21_l t21_c t22 t23 w__1 R B1
        )
    ) (
      cond (decide (((Int.tmod t28 5) : Int) = 2)) (
        ∃ (t72 : Int),
        ((((w.alloc (.cells ⟨[(.int .u8 0), (.slice none 0 0), (.int .i64 0)]⟩ 30)).setCell ⟨w.heap.size, 0, none⟩ (.int .u8 t26_0)).setCell ⟨w.heap.size, 1, none⟩ (.slice t26_1_a t26_1_l t26_1_c)).setCell ⟨w.heap.size, 2, none⟩ (.int .i64 t26_2)).cell? ⟨w.heap.size, 2, none⟩ = some (.int .i64 t72) ∧
        Calls Try.prog 13 ⟨[(.pointer t4), (.int .i64 t72)]⟩ ((((w.alloc (.cells ⟨[(.int .u8 0), (.slice none 0 0), (.int .i64 0)]⟩ 30)).setCell ⟨w.heap.size, 0, none⟩ (.int .u8 t26_0)).setCell ⟨w.heap.size, 1, none⟩ (.slice t26_1_a t26_1_l t26_1_c)).setCell ⟨w.heap.size, 2, none⟩ (.int .i64 t26_2)) fun e w__7 =>
          ∃ (t73_0_a : Option Addr) (t73_0_l : Nat) (t73_0_c : Nat) (t73_1 : Bool),
          e = .returned (.tuple ⟨[(.slice t73_0_a t73_0_l t73_0_c), (.bool t73_1)]⟩) ∧
          cond t73_1 (
            ∃ (t80 : ByteArray) (w__8 : World),
            (convert 28 9 (.slice t73_0_a t73_0_l t73_0_c)).run Try.prog w__7 = .ok (.string t80) w__8 ∧
            ∃ (t81 : Int) (w__9 : World),
            (Instr.lookup 26 (.map t5) (.string t80) false).run Try.prog w__8 = .ok (.int .i64 t81) w__9 ∧
            S3_k5 t3 t4 t5 t6 t21_a t21_l t21_c t22 t23 (decide ((t81 : Int) < 1)) w__9 R B1
          ) (
            S3_k5 t3 t4 t5 t6 t21_a t21_l t21_c t22 t23 false w__7 R B1
          )
      ) (
        S3_k4 t3 t4 t5 t6 t21_a t21_l t21_c t22 t23 ((((w.alloc (.cells ⟨[(.int .u8 0), (.slice none 0 0), (.int .i64 0)]⟩ 30)).setCell ⟨w.heap.size, 0, none⟩ (.int .u8 t26_0)).setCell ⟨w.heap.size, 1, none⟩ (.slice t26_1_a t26_1_l t26_1_c)).setCell ⟨w.heap.size, 2, none⟩ (.int .i64 t26_2)) R B1
      )
    )
  )

def S3_k10 (t3 : Bool) (t4 : Option Addr) (t5 : Option Nat) (t13_a : Option Addr) (t13_l : Nat) (t13_c : Nat) (t89 : Int) (t90 : Int) (w : World) (R : Value → World → Prop) (B1 : (Int) × Unit → World → Prop) : Prop :=
  ∃ (t111 : ByteArray) (w_ : World),
  (convert 28 9 (.slice t13_a t13_l t13_c)).run Try.prog w = .ok (.string t111) w_ ∧
  ∃ (t112 : Int) (w__1 : World),
  (Instr.lookup 26 (.map t5) (.string t111) false).run Try.prog w_ = .ok (.int .i64 t112) w__1 ∧
  ∃ (w__2 : World),
  (Instr.mapUpdate 26 (.map t5) (.string t111) (.int .i64 (IntKind.i64.wrap (t112 - 1)))).run Try.prog w__1 = .ok () w__2 ∧
  B1 ((IntKind.i64.wrap (t90 + 1)), ()) w__2

def S3_k9 (t3 : Bool) (t4 : Option Addr) (t5 : Option Nat) (t13_a : Option Addr) (t13_l : Nat) (t13_c : Nat) (t89 : Int) (t90 : Int) (t108 : Bool) (w : World) (R : Value → World → Prop) (B1 : (Int) × Unit → World → Prop) : Prop :=
  cond t108 (
    R (.bool false) w
  ) (
    S3_k10 t3 t4 t5 t13_a t13_l t13_c t89 t90 w R B1
  )

def S3_k8 (t3 : Bool) (t4 : Option Addr) (t5 : Option Nat) (t89 : Int) (t90 : Int) (w : World) (R : Value → World → Prop) (B1 : (Int) × Unit → World → Prop) : Prop :=
  Calls Try.prog 14 ⟨[(.pointer t4)]⟩ w fun e w_ =>
    ∃ (t95 : Int),
    e = .returned (.int .i64 t95) ∧
    Calls Try.prog 12 ⟨[(.pointer t4), (.int .i64 (IntKind.i64.wrap (t95 - 1)))]⟩ w_ fun e w__1 =>
      ∃ (t97_0_a : Option Addr) (t97_0_l : Nat) (t97_0_c : Nat) (t97_1 : Bool),
      e = .returned (.tuple ⟨[(.slice t97_0_a t97_0_l t97_0_c), (.bool t97_1)]⟩) ∧
      cond (!t97_1) (
        S3_k9 t3 t4 t5 t97_0_a t97_0_l t97_0_c t89 t90 true w__1 R B1
      ) (
        ∃ (t105 : ByteArray) (w__2 : World),
        (convert 28 9 (.slice t97_0_a t97_0_l t97_0_c)).run Try.prog w__1 = .ok (.string t105) w__2 ∧
        ∃ (t106 : Int) (w__3 : World),
        (Instr.lookup 26 (.map t5) (.string t105) false).run Try.prog w__2 = .ok (.int .i64 t106) w__3 ∧
        S3_k9 t3 t4 t5 t97_0_a t97_0_l t97_0_c t89 t90 (decide ((t106 : Int) < 1)) w__3 R B1
      )

def S3_k11 (t3 : Bool) (t4 : Option Addr) (w : World) (R : Value → World → Prop) : Prop :=
  cond t3 (
    Calls Try.prog 14 ⟨[(.pointer t4)]⟩ w fun e w_ =>
      ∃ (t118 : Int),
      e = .returned (.int .i64 t118) ∧
      R (.bool (decide ((t118 : Int) = 0))) w_
  ) (
    R (.bool false) w
  )

def S3_L7 (t3 : Bool) (t4 : Option Addr) (t5 : Option Nat) (t89 : Int) (t90 : Int) (w : World) (R : Value → World → Prop) (B1 : (Int) × Unit → World → Prop) : Prop :=
  cond (decide ((t90 : Int) < t89)) (
    S3_k8 t3 t4 t5 t89 t90 w R B1
  ) (
    S3_k11 t3 t4 w R
  )

def S3_k6 (t3 : Bool) (t4 : Option Addr) (t5 : Option Nat) (t6 : Int) (w : World) (R : Value → World → Prop) : Prop :=
  ∃ (I : (Int) × Unit → World → Prop) (μ : (Int) × Unit → World → Nat),
  I (0, ()) w ∧
  ∀ (J : Env) (s : (Int) × Unit) (w' : World), I s w' →
    S3_L7 t3 t4 t5 t6 s.1 w' R (fun s' w'' => I s' w'' ∧ μ s' w'' < μ s w')

def S3_L1 (t3 : Bool) (t4 : Option Addr) (t5 : Option Nat) (t6 : Int) (t21_a : Option Addr) (t21_l : Nat) (t21_c : Nat) (t22 : Int) (t23 : Int) (w : World) (R : Value → World → Prop) (B1 : (Int) × (Int) × Unit → World → Prop) : Prop :=
  cond (decide ((t23 : Int) < t22)) (
    S3_k2 t3 t4 t5 t6 t21_a t21_l t21_c t22 t23 w R B1
  ) (
    S3_k6 t3 t4 t5 t6 w R
  )

def S3_k0 (l_a : Option Addr) (l_l : Nat) (l_c : Nat) (t3 : Bool) (t4 : Option Addr) (w : World) (R : Value → World → Prop) : Prop :=
  Calls Try.prog 10 ⟨[(.slice l_a l_l l_c)]⟩ (w.alloc (.map #[] 0)) fun e w_ =>
    ∃ (t21_a : Option Addr) (t21_l : Nat) (t21_c : Nat),
    e = .returned (.slice t21_a t21_l t21_c) ∧
    ∃ (I : (Int) × (Int) × Unit → World → Prop) (μ : (Int) × (Int) × Unit → World → Nat),
    I (0, 0, ()) w_ ∧
    ∀ (J : Env) (s : (Int) × (Int) × Unit) (w' : World), I s w' →
      S3_L1 t3 t4 (some w.heap.size) s.1 t21_a t21_l t21_c ((t21_l : Nat) : Int) s.2.1 w' R (fun s' w'' => I s' w'' ∧ μ s' w'' < μ s w')

def S3 (l_a : Option Addr) (l_l : Nat) (l_c : Nat) (w : World) (R : Value → World → Prop) : Prop :=
  Calls Try.prog 8 ⟨[]⟩ w fun e w_ =>
    ∃ (t15 : Bool),
    e = .returned (.bool t15) ∧
    Calls Try.prog 9 ⟨[]⟩ w_ fun e w__1 =>
      ∃ (t16 : Option Addr),
      e = .returned (.pointer t16) ∧
      cond (Option.isNone t16) (
        R (.bool false) w__1
      ) (
        S3_k0 l_a l_l l_c t15 t16 w__1 R
      )

theorem S3_eq (l_a : Option Addr) (l_l : Nat) (l_c : Nat) (w : World) (R : Value → World → Prop) : Eng.R Try.prog ⟨cal, S3_nx⟩ 121 S3_ann [] (Try.f3.body.getD .skip) (bodyQ Try.prog #[.tmp 2] R) (argE [(.slice l_a l_l l_c)]) w = S3 l_a l_l l_c w R := by kernel_rfl
/-- A call of 'carfax/carfaxlaw13.NetOnce', by its condition. -/
theorem S3_calls {l_a : Option Addr} {l_l : Nat} {l_c : Nat} {w : World} {R : Value → World → Prop} (hS : S3 l_a l_l l_c w R) : Ret Try.prog 3 [(.slice l_a l_l l_c)] w R :=
  R_calls (C := ⟨cal, S3_nx⟩) cal_ok follows Try.func3 (c := Try.f3.body.getD .skip) (res := #[.tmp 2]) (n := 121) (by kernel_rfl) (by kernel_rfl) (by kernel_rfl) (by kernel_rfl) ((S3_eq l_a l_l l_c w R).mpr hS)

def S4_ann (p : List Nat) : Option LA := match p with
  | [0, 1, 0, 1, 1, 1, 1, 1] => some ⟨[3, 4, 5, 28, 29], [(30, .one (.int .i64))]⟩
  | [0, 1, 1, 1, 0, 1, 0, 1, 0, 1, 0, 0, 1, 1, 0, 0, 1, 0, 1, 1, 1, 1, 1] => some ⟨[3, 4, 5, 8, 28, 29, 30, 64], [(65, .one (.int .i64))]⟩
  | [0, 1, 1, 1, 1, 0, 1, 1, 1, 1, 1, 0, 1, 0, 1, 0, 0, 1, 1, 0, 0, 1, 0, 1, 1, 1, 1, 1] => some ⟨[3, 4, 5, 14, 28, 29, 30, 126], [(127, .one (.int .i64))]⟩
  | [0, 1, 1, 1, 1, 1, 1, 1, 1, 1, 0, 1, 0, 1, 0, 0, 1, 1, 0, 0, 1, 0, 1, 1, 1, 1, 1] => some ⟨[3, 4, 5, 28, 29, 30, 39], [(40, .one (.int .i64))]⟩
  | _ => none

def S4_nx (t : Nat) : Option (TypeId × TypeId) := none

def S4_k6 (t3 : Bool) (t4 : Option Addr) (t5 : Addr) (t8_a : Option Addr) (t8_l : Nat) (t8_c : Nat) (t28_a : Option Addr) (t28_l : Nat) (t28_c : Nat) (t29 : Int) (t30 : Int) (t64 : Int) (t65 : Int) (w : World) (R : Value → World → Prop) (B1 : (Int) × Unit → World → Prop) (B2 : (Int) × Unit → World → Prop) : Prop :=
  ∃ (t70 : Addr),
  t8_a = some t70 ∧
  0 ≤ (t65 : Int) ∧
  (t65 : Int) < ((t8_l : Nat) : Int) ∧
  ∃ (t71 : Int),
  w.cell? (t70.add (Int.toNat t65 * 1)) = some (.int .u8 t71) ∧
  ∃ (t73 : Addr),
  t8_a = some t73 ∧
  0 ≤ (t65 : Int) ∧
  (t65 : Int) < ((t8_l : Nat) : Int) ∧
  (∃ u, w.cell? (t73.add (Int.toNat t65 * 1)) = some u) ∧
  w.frozen? (t73.add (Int.toNat t65 * 1)) = false ∧
  B2 ((IntKind.i64.wrap (t65 + 1)), ()) (w.setCell (t73.add (Int.toNat t65 * 1)) (.int .u8 (bitsI .xor .u8 t71 85)))

def S4_k8 (t3 : Bool) (t4 : Option Addr) (t5 : Addr) (t28_a : Option Addr) (t28_l : Nat) (t28_c : Nat) (t29 : Int) (t30 : Int) (t159 : Bool) (w : World) (R : Value → World → Prop) (B1 : (Int) × Unit → World → Prop) : Prop :=
  cond t159 (
    R (.bool false) w
  ) (
    B1 ((IntKind.i64.wrap (t30 + 1)), ()) w
  )

def S4_k7 (t3 : Bool) (t4 : Option Addr) (t5 : Addr) (t28_a : Option Addr) (t28_l : Nat) (t28_c : Nat) (t29 : Int) (t30 : Int) (w : World) (R : Value → World → Prop) (B1 : (Int) × Unit → World → Prop) : Prop :=
  ∃ (t155 : Addr),
  (some t5) = some t155 ∧
  (
    Calls Try.prog 14 ⟨[(.pointer t4)]⟩ w.drew fun e w_ =>
      ∃ (t153 : Int),
      e = .returned (.int .i64 t153) ∧
      ∃ (t157_a : Option Addr) (t157_l : Nat) (t157_c : Nat),
      w_.cell? t155 = some (.slice t157_a t157_l t157_c) ∧
      S4_k8 t3 t4 t5 t28_a t28_l t28_c t29 t30 (!decide ((t153 : Int) = ((t157_l : Nat) : Int))) w_ R B1
  ) ∧
  (
    ∃ (t157_a_1 : Option Addr) (t157_l_1 : Nat) (t157_c_1 : Nat),
    w.drew.cell? t155 = some (.slice t157_a_1 t157_l_1 t157_c_1) ∧
    Calls Try.prog 14 ⟨[(.pointer t4)]⟩ w.drew fun e w__1 =>
      ∃ (t153_1 : Int),
      e = .returned (.int .i64 t153_1) ∧
      S4_k8 t3 t4 t5 t28_a t28_l t28_c t29 t30 (!decide ((t153_1 : Int) = ((t157_l_1 : Nat) : Int))) w__1 R B1
  )

def S4_L5 (t3 : Bool) (t4 : Option Addr) (t5 : Addr) (t8_a : Option Addr) (t8_l : Nat) (t8_c : Nat) (t28_a : Option Addr) (t28_l : Nat) (t28_c : Nat) (t29 : Int) (t30 : Int) (t64 : Int) (t65 : Int) (w : World) (R : Value → World → Prop) (B1 : (Int) × Unit → World → Prop) (B2 : (Int) × Unit → World → Prop) : Prop :=
  cond (decide ((t65 : Int) < t64)) (
    S4_k6 t3 t4 t5 t8_a t8_l t8_c t28_a t28_l t28_c t29 t30 t64 t65 w R B1 B2
  ) (
    S4_k7 t3 t4 t5 t28_a t28_l t28_c t29 t30 w R B1
  )

def S4_k4 (t3 : Bool) (t4 : Option Addr) (t5 : Addr) (t8_a : Option Addr) (t8_l : Nat) (t8_c : Nat) (t28_a : Option Addr) (t28_l : Nat) (t28_c : Nat) (t29 : Int) (t30 : Int) (w : World) (R : Value → World → Prop) (B1 : (Int) × Unit → World → Prop) : Prop :=
  ∃ (I : (Int) × Unit → World → Prop) (μ : (Int) × Unit → World → Nat),
  I (0, ()) w ∧
  ∀ (J : Env) (s : (Int) × Unit) (w' : World), I s w' →
    S4_L5 t3 t4 t5 t8_a t8_l t8_c t28_a t28_l t28_c t29 t30 ((t8_l : Nat) : Int) s.1 w' R B1 (fun s' w'' => I s' w'' ∧ μ s' w'' < μ s w')

def S4_k3 (t3 : Bool) (t4 : Option Addr) (t5 : Addr) (t8_a : Option Addr) (t8_l : Nat) (t8_c : Nat) (t28_a : Option Addr) (t28_l : Nat) (t28_c : Nat) (t29 : Int) (t30 : Int) (t62 : Bool) (w : World) (R : Value → World → Prop) (B1 : (Int) × Unit → World → Prop) : Prop :=
  cond t62 (
    R (.bool false) w
  ) (
    S4_k4 t3 t4 t5 t8_a t8_l t8_c t28_a t28_l t28_c t29 t30 w R B1
  )

def S4_k9 (t3 : Bool) (t4 : Option Addr) (t5 : Addr) (t28_a : Option Addr) (t28_l : Nat) (t28_c : Nat) (t29 : Int) (t30 : Int) (t99 : Bool) (w : World) (R : Value → World → Prop) (B1 : (Int) × Unit → World → Prop) : Prop :=
  cond t99 (
    R (.bool false) w
  ) (
    S4_k7 t3 t4 t5 t28_a t28_l t28_c t29 t30 w R B1
  )

def S4_k13 (t3 : Bool) (t4 : Option Addr) (t5 : Addr) (t14_a : Option Addr) (t14_l : Nat) (t14_c : Nat) (t28_a : Option Addr) (t28_l : Nat) (t28_c : Nat) (t29 : Int) (t30 : Int) (t126 : Int) (t127 : Int) (w : World) (R : Value → World → Prop) (B1 : (Int) × Unit → World → Prop) (B2 : (Int) × Unit → World → Prop) : Prop :=
  ∃ (t132 : Addr),
  t14_a = some t132 ∧
  0 ≤ (t127 : Int) ∧
  (t127 : Int) < ((t14_l : Nat) : Int) ∧
  ∃ (t133 : Int),
  w.cell? (t132.add (Int.toNat t127 * 1)) = some (.int .u8 t133) ∧
  ∃ (t135 : Addr),
  t14_a = some t135 ∧
  0 ≤ (t127 : Int) ∧
  (t127 : Int) < ((t14_l : Nat) : Int) ∧
  (∃ u, w.cell? (t135.add (Int.toNat t127 * 1)) = some u) ∧
  w.frozen? (t135.add (Int.toNat t127 * 1)) = false ∧
  B2 ((IntKind.i64.wrap (t127 + 1)), ()) (w.setCell (t135.add (Int.toNat t127 * 1)) (.int .u8 (bitsI .xor .u8 t133 85)))

def S4_L12 (t3 : Bool) (t4 : Option Addr) (t5 : Addr) (t14_a : Option Addr) (t14_l : Nat) (t14_c : Nat) (t28_a : Option Addr) (t28_l : Nat) (t28_c : Nat) (t29 : Int) (t30 : Int) (t126 : Int) (t127 : Int) (w : World) (R : Value → World → Prop) (B1 : (Int) × Unit → World → Prop) (B2 : (Int) × Unit → World → Prop) : Prop :=
  cond (decide ((t127 : Int) < t126)) (
    S4_k13 t3 t4 t5 t14_a t14_l t14_c t28_a t28_l t28_c t29 t30 t126 t127 w R B1 B2
  ) (
    S4_k7 t3 t4 t5 t28_a t28_l t28_c t29 t30 w R B1
  )

def S4_k11 (t3 : Bool) (t4 : Option Addr) (t5 : Addr) (t14_a : Option Addr) (t14_l : Nat) (t14_c : Nat) (t28_a : Option Addr) (t28_l : Nat) (t28_c : Nat) (t29 : Int) (t30 : Int) (w : World) (R : Value → World → Prop) (B1 : (Int) × Unit → World → Prop) : Prop :=
  ∃ (I : (Int) × Unit → World → Prop) (μ : (Int) × Unit → World → Nat),
  I (0, ()) w ∧
  ∀ (J : Env) (s : (Int) × Unit) (w' : World), I s w' →
    S4_L12 t3 t4 t5 t14_a t14_l t14_c t28_a t28_l t28_c t29 t30 ((t14_l : Nat) : Int) s.1 w' R B1 (fun s' w'' => I s' w'' ∧ μ s' w'' < μ s w')

def S4_k10 (t3 : Bool) (t4 : Option Addr) (t5 : Addr) (t14_a : Option Addr) (t14_l : Nat) (t14_c : Nat) (t28_a : Option Addr) (t28_l : Nat) (t28_c : Nat) (t29 : Int) (t30 : Int) (t124 : Bool) (w : World) (R : Value → World → Prop) (B1 : (Int) × Unit → World → Prop) : Prop :=
  cond t124 (
    R (.bool false) w
  ) (
    S4_k11 t3 t4 t5 t14_a t14_l t14_c t28_a t28_l t28_c t29 t30 w R B1
  )

def S4_k15 (t3 : Bool) (t4 : Option Addr) (t5 : Addr) (t28_a : Option Addr) (t28_l : Nat) (t28_c : Nat) (t29 : Int) (t30 : Int) (t39 : Int) (t40 : Int) (w : World) (R : Value → World → Prop) (B1 : (Int) × Unit → World → Prop) (B2 : (Int) × Unit → World → Prop) : Prop :=
  Calls Try.prog 11 ⟨[(.pointer t4), (.slice none 0 0)]⟩ w fun e w_ =>
    ∃ (t43 : Int),
    e = .returned (.int .i64 t43) ∧
    Calls Try.prog 15 ⟨[(.pointer (some t5)), (.string (⟨#[]⟩ : ByteArray))]⟩ w_ fun e w__1 =>
      ∃ (t45 : Int),
      e = .returned (.int .i64 t45) ∧
      cond (!decide ((t43 : Int) = t45)) (
        R (.bool false) w__1
      ) (
        B2 ((IntKind.i64.wrap (t40 + 1)), ()) w__1
      )

def S4_L14 (t3 : Bool) (t4 : Option Addr) (t5 : Addr) (t28_a : Option Addr) (t28_l : Nat) (t28_c : Nat) (t29 : Int) (t30 : Int) (t39 : Int) (t40 : Int) (w : World) (R : Value → World → Prop) (B1 : (Int) × Unit → World → Prop) (B2 : (Int) × Unit → World → Prop) : Prop :=
  cond (decide ((t40 : Int) < t39)) (
    S4_k15 t3 t4 t5 t28_a t28_l t28_c t29 t30 t39 t40 w R B1 B2
  ) (
    S4_k7 t3 t4 t5 t28_a t28_l t28_c t29 t30 w R B1
  )

def S4_k2 (t3 : Bool) (t4 : Option Addr) (t5 : Addr) (t28_a : Option Addr) (t28_l : Nat) (t28_c : Nat) (t29 : Int) (t30 : Int) (w : World) (R : Value → World → Prop) (B1 : (Int) × Unit → World → Prop) : Prop :=
  ∃ (t32 : Addr),
  t28_a = some t32 ∧
  0 ≤ (t30 : Int) ∧
  (t30 : Int) < ((t28_l : Nat) : Int) ∧
  ∃ (t33_0 : Int),
  w.cell? (t32.add (Int.toNat t30 * 3)) = some (.int .u8 t33_0) ∧
  ∃ (t33_1_a : Option Addr) (t33_1_l : Nat) (t33_1_c : Nat),
  w.cell? ((t32.add (Int.toNat t30 * 3)).add 1) = some (.slice t33_1_a t33_1_l t33_1_c) ∧
  ∃ (t33_2 : Int),
  w.cell? ((t32.add (Int.toNat t30 * 3)).add 2) = some (.int .i64 t33_2) ∧
  (∃ u, (w.alloc (.cells ⟨[(.int .u8 0), (.slice none 0 0), (.int .i64 0)]⟩ 30)).cell? ⟨w.heap.size, 0, none⟩ = some u) ∧
  (w.alloc (.cells ⟨[(.int .u8 0), (.slice none 0 0), (.int .i64 0)]⟩ 30)).frozen? ⟨w.heap.size, 0, none⟩ = false ∧
  (∃ u, ((w.alloc (.cells ⟨[(.int .u8 0), (.slice none 0 0), (.int .i64 0)]⟩ 30)).setCell ⟨w.heap.size, 0, none⟩ (.int .u8 t33_0)).cell? ⟨w.heap.size, 1, none⟩ = some u) ∧
  ((w.alloc (.cells ⟨[(.int .u8 0), (.slice none 0 0), (.int .i64 0)]⟩ 30)).setCell ⟨w.heap.size, 0, none⟩ (.int .u8 t33_0)).frozen? ⟨w.heap.size, 1, none⟩ = false ∧
  (∃ u, (((w.alloc (.cells ⟨[(.int .u8 0), (.slice none 0 0), (.int .i64 0)]⟩ 30)).setCell ⟨w.heap.size, 0, none⟩ (.int .u8 t33_0)).setCell ⟨w.heap.size, 1, none⟩ (.slice t33_1_a t33_1_l t33_1_c)).cell? ⟨w.heap.size, 2, none⟩ = some u) ∧
  (((w.alloc (.cells ⟨[(.int .u8 0), (.slice none 0 0), (.int .i64 0)]⟩ 30)).setCell ⟨w.heap.size, 0, none⟩ (.int .u8 t33_0)).setCell ⟨w.heap.size, 1, none⟩ (.slice t33_1_a t33_1_l t33_1_c)).frozen? ⟨w.heap.size, 2, none⟩ = false ∧
  ∃ (t35 : Int),
  ((((w.alloc (.cells ⟨[(.int .u8 0), (.slice none 0 0), (.int .i64 0)]⟩ 30)).setCell ⟨w.heap.size, 0, none⟩ (.int .u8 t33_0)).setCell ⟨w.heap.size, 1, none⟩ (.slice t33_1_a t33_1_l t33_1_c)).setCell ⟨w.heap.size, 2, none⟩ (.int .i64 t33_2)).cell? ⟨w.heap.size, 0, none⟩ = some (.int .u8 t35) ∧
  (5 : Int) ≠ 0 ∧
  cond (decide (((Int.tmod t35 5) : Int) = 0)) (
    ∃ (t52_a : Option Addr) (t52_l : Nat) (t52_c : Nat),
    (((((w.alloc (.cells ⟨[(.int .u8 0), (.slice none 0 0), (.int .i64 0)]⟩ 30)).setCell ⟨w.heap.size, 0, none⟩ (.int .u8 t33_0)).setCell ⟨w.heap.size, 1, none⟩ (.slice t33_1_a t33_1_l t33_1_c)).setCell ⟨w.heap.size, 2, none⟩ (.int .i64 t33_2)).alloc (.cells ⟨[]⟩ 5)).cell? ⟨w.heap.size, 1, none⟩ = some (.slice t52_a t52_l t52_c) ∧
    ∃ (t53_a : Option Addr) (t53_l : Nat) (t53_c : Nat) (w_ : World),
    (Builtin.append_ #[28, 28] 28 ⟨[(.slice (some ⟨((((w.alloc (.cells ⟨[(.int .u8 0), (.slice none 0 0), (.int .i64 0)]⟩ 30)).setCell ⟨w.heap.size, 0, none⟩ (.int .u8 t33_0)).setCell ⟨w.heap.size, 1, none⟩ (.slice t33_1_a t33_1_l t33_1_c)).setCell ⟨w.heap.size, 2, none⟩ (.int .i64 t33_2)).heap.size, 0, none⟩) 0 0), (.slice t52_a t52_l t52_c)]⟩).run Try.prog (((((w.alloc (.cells ⟨[(.int .u8 0), (.slice none 0 0), (.int .i64 0)]⟩ 30)).setCell ⟨w.heap.size, 0, none⟩ (.int .u8 t33_0)).setCell ⟨w.heap.size, 1, none⟩ (.slice t33_1_a t33_1_l t33_1_c)).setCell ⟨w.heap.size, 2, none⟩ (.int .i64 t33_2)).alloc (.cells ⟨[]⟩ 5)) = .ok (.slice t53_a t53_l t53_c) w_ ∧
    (
      Calls Try.prog 11 ⟨[(.pointer t4), (.slice t53_a t53_l t53_c)]⟩ w_.drew fun e w__1 =>
        ∃ (t56 : Int),
        e = .returned (.int .i64 t56) ∧
        ∃ (t59_a : Option Addr) (t59_l : Nat) (t59_c : Nat),
        w__1.cell? ⟨w.heap.size, 1, none⟩ = some (.slice t59_a t59_l t59_c) ∧
        ∃ (t60 : ByteArray) (w__2 : World),
        (convert 28 9 (.slice t59_a t59_l t59_c)).run Try.prog w__1 = .ok (.string t60) w__2 ∧
        Calls Try.prog 15 ⟨[(.pointer (some t5)), (.string t60)]⟩ w__2 fun e w__3 =>
          ∃ (t61 : Int),
          e = .returned (.int .i64 t61) ∧
          S4_k3 t3 t4 t5 t53_a t53_l t53_c t28_a t28_l t28_c t29 t30 (!decide ((t56 : Int) = t61)) w__3 R B1
    ) ∧
    (
      ∃ (t59_a_1 : Option Addr) (t59_l_1 : Nat) (t59_c_1 : Nat),
      w_.drew.cell? ⟨w.heap.size, 1, none⟩ = some (.slice t59_a_1 t59_l_1 t59_c_1) ∧
      (
        Calls Try.prog 11 ⟨[(.pointer t4), (.slice t53_a t53_l t53_c)]⟩ w_.drew fun e w__4 =>
          ∃ (t56_1 : Int),
          e = .returned (.int .i64 t56_1) ∧
          ∃ (t60_1 : ByteArray) (w__5 : World),
          (convert 28 9 (.slice t59_a_1 t59_l_1 t59_c_1)).run Try.prog w__4 = .ok (.string t60_1) w__5 ∧
          Calls Try.prog 15 ⟨[(.pointer (some t5)), (.string t60_1)]⟩ w__5 fun e w__6 =>
            ∃ (t61_1 : Int),
            e = .returned (.int .i64 t61_1) ∧
            S4_k3 t3 t4 t5 t53_a t53_l t53_c t28_a t28_l t28_c t29 t30 (!decide ((t56_1 : Int) = t61_1)) w__6 R B1
      ) ∧
      (
        ∃ (t60_2 : ByteArray) (w__7 : World),
        (convert 28 9 (.slice t59_a_1 t59_l_1 t59_c_1)).run Try.prog w_.drew = .ok (.string t60_2) w__7 ∧
        Calls Try.prog 11 ⟨[(.pointer t4), (.slice t53_a t53_l t53_c)]⟩ w__7 fun e w__8 =>
          ∃ (t56_2 : Int),
          e = .returned (.int .i64 t56_2) ∧
          Calls Try.prog 15 ⟨[(.pointer (some t5)), (.string t60_2)]⟩ w__8 fun e w__9 =>
            ∃ (t61_2 : Int),
            e = .returned (.int .i64 t61_2) ∧
            S4_k3 t3 t4 t5 t53_a t53_l t53_c t28_a t28_l t28_c t29 t30 (!decide ((t56_2 : Int) = t61_2)) w__9 R B1
      )
    )
  ) (
    cond (decide (((Int.tmod t35 5) : Int) = 1)) (
      ∃ (t80 : Int),
      ((((w.alloc (.cells ⟨[(.int .u8 0), (.slice none 0 0), (.int .i64 0)]⟩ 30)).setCell ⟨w.heap.size, 0, none⟩ (.int .u8 t33_0)).setCell ⟨w.heap.size, 1, none⟩ (.slice t33_1_a t33_1_l t33_1_c)).setCell ⟨w.heap.size, 2, none⟩ (.int .i64 t33_2)).cell? ⟨w.heap.size, 2, none⟩ = some (.int .i64 t80) ∧
      Calls Try.prog 12 ⟨[(.pointer t4), (.int .i64 t80)]⟩ ((((w.alloc (.cells ⟨[(.int .u8 0), (.slice none 0 0), (.int .i64 0)]⟩ 30)).setCell ⟨w.heap.size, 0, none⟩ (.int .u8 t33_0)).setCell ⟨w.heap.size, 1, none⟩ (.slice t33_1_a t33_1_l t33_1_c)).setCell ⟨w.heap.size, 2, none⟩ (.int .i64 t33_2)) fun e w__10 =>
        ∃ (t81_0_a : Option Addr) (t81_0_l : Nat) (t81_0_c : Nat) (t81_1 : Bool),
        e = .returned (.tuple ⟨[(.slice t81_0_a t81_0_l t81_0_c), (.bool t81_1)]⟩) ∧
        ∃ (t87 : Int),
        w__10.cell? ⟨w.heap.size, 2, none⟩ = some (.int .i64 t87) ∧
        Calls Try.prog 16 ⟨[(.pointer (some t5)), (.int .i64 t87)]⟩ w__10 fun e w__11 =>
          ∃ (t88_0 : ByteArray) (t88_1 : Bool),
          e = .returned (.tuple ⟨[(.string t88_0), (.bool t88_1)]⟩) ∧
          ∃ (t92 : ByteArray) (w__12 : World),
          (convert 28 9 (.slice t81_0_a t81_0_l t81_0_c)).run Try.prog w__11 = .ok (.string t92) w__12 ∧
          cond (!decide ((t92 : ByteArray) = t88_0)) (
            S4_k9 t3 t4 t5 t28_a t28_l t28_c t29 t30 true w__12 R B1
          ) (
            S4_k9 t3 t4 t5 t28_a t28_l t28_c t29 t30 (!(t81_1 == t88_1)) w__12 R B1
          )
    ) (
      cond (decide (((Int.tmod t35 5) : Int) = 2)) (
        ∃ (t105 : Int),
        ((((w.alloc (.cells ⟨[(.int .u8 0), (.slice none 0 0), (.int .i64 0)]⟩ 30)).setCell ⟨w.heap.size, 0, none⟩ (.int .u8 t33_0)).setCell ⟨w.heap.size, 1, none⟩ (.slice t33_1_a t33_1_l t33_1_c)).setCell ⟨w.heap.size, 2, none⟩ (.int .i64 t33_2)).cell? ⟨w.heap.size, 2, none⟩ = some (.int .i64 t105) ∧
        Calls Try.prog 13 ⟨[(.pointer t4), (.int .i64 t105)]⟩ ((((w.alloc (.cells ⟨[(.int .u8 0), (.slice none 0 0), (.int .i64 0)]⟩ 30)).setCell ⟨w.heap.size, 0, none⟩ (.int .u8 t33_0)).setCell ⟨w.heap.size, 1, none⟩ (.slice t33_1_a t33_1_l t33_1_c)).setCell ⟨w.heap.size, 2, none⟩ (.int .i64 t33_2)) fun e w__13 =>
          ∃ (t106_0_a : Option Addr) (t106_0_l : Nat) (t106_0_c : Nat) (t106_1 : Bool),
          e = .returned (.tuple ⟨[(.slice t106_0_a t106_0_l t106_0_c), (.bool t106_1)]⟩) ∧
          ∃ (t112 : Int),
          w__13.cell? ⟨w.heap.size, 2, none⟩ = some (.int .i64 t112) ∧
          Calls Try.prog 17 ⟨[(.pointer (some t5)), (.int .i64 t112)]⟩ w__13 fun e w__14 =>
            ∃ (t113_0 : ByteArray) (t113_1 : Bool),
            e = .returned (.tuple ⟨[(.string t113_0), (.bool t113_1)]⟩) ∧
            ∃ (t117 : ByteArray) (w__15 : World),
            (convert 28 9 (.slice t106_0_a t106_0_l t106_0_c)).run Try.prog w__14 = .ok (.string t117) w__15 ∧
            cond (!decide ((t117 : ByteArray) = t113_0)) (
              S4_k10 t3 t4 t5 t106_0_a t106_0_l t106_0_c t28_a t28_l t28_c t29 t30 true w__15 R B1
            ) (
              S4_k10 t3 t4 t5 t106_0_a t106_0_l t106_0_c t28_a t28_l t28_c t29 t30 (!(t106_1 == t113_1)) w__15 R B1
            )
      ) (
        cond (decide (((Int.tmod t35 5) : Int) = 3)) (
          ∃ (t142 : Int),
          ((((w.alloc (.cells ⟨[(.int .u8 0), (.slice none 0 0), (.int .i64 0)]⟩ 30)).setCell ⟨w.heap.size, 0, none⟩ (.int .u8 t33_0)).setCell ⟨w.heap.size, 1, none⟩ (.slice t33_1_a t33_1_l t33_1_c)).setCell ⟨w.heap.size, 2, none⟩ (.int .i64 t33_2)).cell? ⟨w.heap.size, 2, none⟩ = some (.int .i64 t142) ∧
          Calls Try.prog 16 ⟨[(.pointer (some t5)), (.int .i64 t142)]⟩ ((((w.alloc (.cells ⟨[(.int .u8 0), (.slice none 0 0), (.int .i64 0)]⟩ 30)).setCell ⟨w.heap.size, 0, none⟩ (.int .u8 t33_0)).setCell ⟨w.heap.size, 1, none⟩ (.slice t33_1_a t33_1_l t33_1_c)).setCell ⟨w.heap.size, 2, none⟩ (.int .i64 t33_2)) fun e w__16 =>
            ∃ (t143_0 : ByteArray) (t143_1 : Bool),
            e = .returned (.tuple ⟨[(.string t143_0), (.bool t143_1)]⟩) ∧
            ∃ (t148 : Int),
            w__16.cell? ⟨w.heap.size, 2, none⟩ = some (.int .i64 t148) ∧
            Calls Try.prog 18 ⟨[(.pointer t4), (.int .i64 t148)]⟩ w__16 fun e w__17 =>
              ∃ (t149 : Bool),
              e = .returned (.bool t149) ∧
              cond (!(t149 == t143_1)) (
                R (.bool false) w__17
              ) (
                S4_k7 t3 t4 t5 t28_a t28_l t28_c t29 t30 w__17 R B1
              )
        ) (
          ∃ (t38 : Int),
          ((((w.alloc (.cells ⟨[(.int .u8 0), (.slice none 0 0), (.int .i64 0)]⟩ 30)).setCell ⟨w.heap.size, 0, none⟩ (.int .u8 t33_0)).setCell ⟨w.heap.size, 1, none⟩ (.slice t33_1_a t33_1_l t33_1_c)).setCell ⟨w.heap.size, 2, none⟩ (.int .i64 t33_2)).cell? ⟨w.heap.size, 2, none⟩ = some (.int .i64 t38) ∧
          (600 : Int) ≠ 0 ∧
          ∃ (I : (Int) × Unit → World → Prop) (μ : (Int) × Unit → World → Nat),
          I (0, ()) ((((w.alloc (.cells ⟨[(.int .u8 0), (.slice none 0 0), (.int .i64 0)]⟩ 30)).setCell ⟨w.heap.size, 0, none⟩ (.int .u8 t33_0)).setCell ⟨w.heap.size, 1, none⟩ (.slice t33_1_a t33_1_l t33_1_c)).setCell ⟨w.heap.size, 2, none⟩ (.int .i64 t33_2)) ∧
          ∀ (J : Env) (s : (Int) × Unit) (w' : World), I s w' →
            S4_L14 t3 t4 t5 t28_a t28_l t28_c t29 t30 (Int.tmod t38 600) s.1 w' R B1 (fun s' w'' => I s' w'' ∧ μ s' w'' < μ s w')
        )
      )
    )
  )

def S4_L1 (t3 : Bool) (t4 : Option Addr) (t5 : Addr) (t28_a : Option Addr) (t28_l : Nat) (t28_c : Nat) (t29 : Int) (t30 : Int) (w : World) (R : Value → World → Prop) (B1 : (Int) × Unit → World → Prop) : Prop :=
  cond (decide ((t30 : Int) < t29)) (
    S4_k2 t3 t4 t5 t28_a t28_l t28_c t29 t30 w R B1
  ) (
    R (.bool t3) w
  )

def S4_k0 (l_a : Option Addr) (l_l : Nat) (l_c : Nat) (t3 : Bool) (t4 : Option Addr) (w : World) (R : Value → World → Prop) : Prop :=
  Calls Try.prog 10 ⟨[(.slice l_a l_l l_c)]⟩ (w.alloc (.cells ⟨[(.slice none 0 0)]⟩ 40)) fun e w_ =>
    ∃ (t28_a : Option Addr) (t28_l : Nat) (t28_c : Nat),
    e = .returned (.slice t28_a t28_l t28_c) ∧
    ∃ (I : (Int) × Unit → World → Prop) (μ : (Int) × Unit → World → Nat),
    I (0, ()) w_ ∧
    ∀ (J : Env) (s : (Int) × Unit) (w' : World), I s w' →
      S4_L1 t3 t4 ⟨w.heap.size, 0, none⟩ t28_a t28_l t28_c ((t28_l : Nat) : Int) s.1 w' R (fun s' w'' => I s' w'' ∧ μ s' w'' < μ s w')

def S4 (l_a : Option Addr) (l_l : Nat) (l_c : Nat) (w : World) (R : Value → World → Prop) : Prop :=
  Calls Try.prog 8 ⟨[]⟩ w fun e w_ =>
    ∃ (t21 : Bool),
    e = .returned (.bool t21) ∧
    Calls Try.prog 9 ⟨[]⟩ w_ fun e w__1 =>
      ∃ (t22 : Option Addr),
      e = .returned (.pointer t22) ∧
      cond (Option.isNone t22) (
        R (.bool false) w__1
      ) (
        S4_k0 l_a l_l l_c t21 t22 w__1 R
      )

theorem S4_eq (l_a : Option Addr) (l_l : Nat) (l_c : Nat) (w : World) (R : Value → World → Prop) : Eng.R Try.prog ⟨cal, S4_nx⟩ 162 S4_ann [] (Try.f4.body.getD .skip) (bodyQ Try.prog #[.tmp 2] R) (argE [(.slice l_a l_l l_c)]) w = S4 l_a l_l l_c w R := by kernel_rfl
/-- A call of 'carfax/carfaxlaw13.NetPlays', by its condition. -/
theorem S4_calls {l_a : Option Addr} {l_l : Nat} {l_c : Nat} {w : World} {R : Value → World → Prop} (hS : S4 l_a l_l l_c w R) : Ret Try.prog 4 [(.slice l_a l_l l_c)] w R :=
  R_calls (C := ⟨cal, S4_nx⟩) cal_ok follows Try.func4 (c := Try.f4.body.getD .skip) (res := #[.tmp 2]) (n := 162) (by kernel_rfl) (by kernel_rfl) (by kernel_rfl) (by kernel_rfl) ((S4_eq l_a l_l l_c w R).mpr hS)

def S5_ann (p : List Nat) : Option LA :=
  none

def S5_nx (t : Nat) : Option (TypeId × TypeId) := none

def S5 (a_0 : Int) (a_1_a : Option Addr) (a_1_l : Nat) (a_1_c : Nat) (a_2 : Int) (w : World) (R : Value → World → Prop) : Prop :=
  Calls Try.prog 8 ⟨[]⟩ (w.alloc (.cells ⟨[(.int .u8 a_0), (.slice a_1_a a_1_l a_1_c), (.int .i64 a_2)]⟩ 30)) fun e w_ =>
    ∃ (t9 : Bool),
    e = .returned (.bool t9) ∧
    ∃ (t13 : Int),
    w_.cell? ⟨w.heap.size, 2, none⟩ = some (.int .i64 t13) ∧
    Calls Try.prog 12 ⟨[(.pointer none), (.int .i64 t13)]⟩ w_ fun e w__1 =>
      ∃ (t14_0_a : Option Addr) (t14_0_l : Nat) (t14_0_c : Nat) (t14_1 : Bool),
      e = .returned (.tuple ⟨[(.slice t14_0_a t14_0_l t14_0_c), (.bool t14_1)]⟩) ∧
      ∃ (t20 : Int),
      w__1.cell? ⟨w.heap.size, 2, none⟩ = some (.int .i64 t20) ∧
      Calls Try.prog 13 ⟨[(.pointer none), (.int .i64 t20)]⟩ w__1 fun e w__2 =>
        ∃ (t21_0_a : Option Addr) (t21_0_l : Nat) (t21_0_c : Nat) (t21_1 : Bool),
        e = .returned (.tuple ⟨[(.slice t21_0_a t21_0_l t21_0_c), (.bool t21_1)]⟩) ∧
        cond t9 (
          ∃ (t28_a : Option Addr) (t28_l : Nat) (t28_c : Nat),
          w__2.cell? ⟨w.heap.size, 1, none⟩ = some (.slice t28_a t28_l t28_c) ∧
          Calls Try.prog 11 ⟨[(.pointer none), (.slice t28_a t28_l t28_c)]⟩ w__2 fun e w__3 =>
            ∃ (t29 : Int),
            e = .returned (.int .i64 t29) ∧
            cond (decide ((t29 : Int) = 2)) (
              cond (!t14_1) (
                cond (!t21_1) (
                  ∃ (t43 : Int),
                  w__3.cell? ⟨w.heap.size, 2, none⟩ = some (.int .i64 t43) ∧
                  Calls Try.prog 18 ⟨[(.pointer none), (.int .i64 t43)]⟩ w__3 fun e w__4 =>
                    ∃ (t44 : Bool),
                    e = .returned (.bool t44) ∧
                    cond (!t44) (
                      Calls Try.prog 14 ⟨[(.pointer none)]⟩ w__4 fun e w__5 =>
                        ∃ (t49 : Int),
                        e = .returned (.int .i64 t49) ∧
                        R (.bool (decide ((t49 : Int) = 0))) w__5
                    ) (
                      R (.bool false) w__4
                    )
                ) (
                  R (.bool false) w__3
                )
              ) (
                R (.bool false) w__3
              )
            ) (
              R (.bool false) w__3
            )
        ) (
          R (.bool false) w__2
        )

theorem S5_eq (a_0 : Int) (a_1_a : Option Addr) (a_1_l : Nat) (a_1_c : Nat) (a_2 : Int) (w : World) (R : Value → World → Prop) : Eng.R Try.prog ⟨cal, S5_nx⟩ 52 S5_ann [] (Try.f5.body.getD .skip) (bodyQ Try.prog #[.tmp 2] R) (argE [(.agg ⟨[(.int .u8 a_0), (.slice a_1_a a_1_l a_1_c), (.int .i64 a_2)]⟩)]) w = S5 a_0 a_1_a a_1_l a_1_c a_2 w R := by kernel_rfl
/-- A call of 'carfax/carfaxlaw13.NetNil', by its condition. -/
theorem S5_calls {a_0 : Int} {a_1_a : Option Addr} {a_1_l : Nat} {a_1_c : Nat} {a_2 : Int} {w : World} {R : Value → World → Prop} (hS : S5 a_0 a_1_a a_1_l a_1_c a_2 w R) : Ret Try.prog 5 [(.agg ⟨[(.int .u8 a_0), (.slice a_1_a a_1_l a_1_c), (.int .i64 a_2)]⟩)] w R :=
  R_calls (C := ⟨cal, S5_nx⟩) cal_ok follows Try.func5 (c := Try.f5.body.getD .skip) (res := #[.tmp 2]) (n := 52) (by kernel_rfl) (by kernel_rfl) (by kernel_rfl) (by kernel_rfl) ((S5_eq a_0 a_1_a a_1_l a_1_c a_2 w R).mpr hS)

def S6_ann (p : List Nat) : Option LA := match p with
  | [0, 1, 0, 1, 1, 1, 1] => some ⟨[1, 5, 6, 23, 24], [(25, .one (.int .i64))]⟩
  | [0, 1, 0, 1, 1, 1, 1, 1, 1] => some ⟨[1, 5, 6, 53], [(9, .one .slice), (54, .one (.int .i64))]⟩
  | [0, 1, 0, 1, 1, 1, 1, 1, 1, 1, 1, 1, 1, 1] => some ⟨[5, 6, 9, 116], [(117, .one (.int .i64))]⟩
  | _ => none

def S6_nx (t : Nat) : Option (TypeId × TypeId) := none

def S6_k2 (t1 : Int) (t5 : Bool) (t6 : Option Addr) (t23_a : Option Addr) (t23_l : Nat) (t23_c : Nat) (t24 : Int) (t25 : Int) (w : World) (R : Value → World → Prop) (B1 : (Int) × Unit → World → Prop) : Prop :=
  ∃ (t27 : Addr),
  t23_a = some t27 ∧
  0 ≤ (t25 : Int) ∧
  (t25 : Int) < ((t23_l : Nat) : Int) ∧
  ∃ (t28_0 : Int),
  w.cell? (t27.add (Int.toNat t25 * 3)) = some (.int .u8 t28_0) ∧
  ∃ (t28_1_a : Option Addr) (t28_1_l : Nat) (t28_1_c : Nat),
  w.cell? ((t27.add (Int.toNat t25 * 3)).add 1) = some (.slice t28_1_a t28_1_l t28_1_c) ∧
  ∃ (t28_2 : Int),
  w.cell? ((t27.add (Int.toNat t25 * 3)).add 2) = some (.int .i64 t28_2) ∧
  (∃ u, (w.alloc (.cells ⟨[(.int .u8 0), (.slice none 0 0), (.int .i64 0)]⟩ 30)).cell? ⟨w.heap.size, 0, none⟩ = some u) ∧
  (w.alloc (.cells ⟨[(.int .u8 0), (.slice none 0 0), (.int .i64 0)]⟩ 30)).frozen? ⟨w.heap.size, 0, none⟩ = false ∧
  (∃ u, ((w.alloc (.cells ⟨[(.int .u8 0), (.slice none 0 0), (.int .i64 0)]⟩ 30)).setCell ⟨w.heap.size, 0, none⟩ (.int .u8 t28_0)).cell? ⟨w.heap.size, 1, none⟩ = some u) ∧
  ((w.alloc (.cells ⟨[(.int .u8 0), (.slice none 0 0), (.int .i64 0)]⟩ 30)).setCell ⟨w.heap.size, 0, none⟩ (.int .u8 t28_0)).frozen? ⟨w.heap.size, 1, none⟩ = false ∧
  (∃ u, (((w.alloc (.cells ⟨[(.int .u8 0), (.slice none 0 0), (.int .i64 0)]⟩ 30)).setCell ⟨w.heap.size, 0, none⟩ (.int .u8 t28_0)).setCell ⟨w.heap.size, 1, none⟩ (.slice t28_1_a t28_1_l t28_1_c)).cell? ⟨w.heap.size, 2, none⟩ = some u) ∧
  (((w.alloc (.cells ⟨[(.int .u8 0), (.slice none 0 0), (.int .i64 0)]⟩ 30)).setCell ⟨w.heap.size, 0, none⟩ (.int .u8 t28_0)).setCell ⟨w.heap.size, 1, none⟩ (.slice t28_1_a t28_1_l t28_1_c)).frozen? ⟨w.heap.size, 2, none⟩ = false ∧
  ∃ (t30 : Int),
  ((((w.alloc (.cells ⟨[(.int .u8 0), (.slice none 0 0), (.int .i64 0)]⟩ 30)).setCell ⟨w.heap.size, 0, none⟩ (.int .u8 t28_0)).setCell ⟨w.heap.size, 1, none⟩ (.slice t28_1_a t28_1_l t28_1_c)).setCell ⟨w.heap.size, 2, none⟩ (.int .i64 t28_2)).cell? ⟨w.heap.size, 0, none⟩ = some (.int .u8 t30) ∧
  (5 : Int) ≠ 0 ∧
  cond (decide (((Int.tmod t30 5) : Int) = 0)) (
    ∃ (t36_a : Option Addr) (t36_l : Nat) (t36_c : Nat),
    ((((w.alloc (.cells ⟨[(.int .u8 0), (.slice none 0 0), (.int .i64 0)]⟩ 30)).setCell ⟨w.heap.size, 0, none⟩ (.int .u8 t28_0)).setCell ⟨w.heap.size, 1, none⟩ (.slice t28_1_a t28_1_l t28_1_c)).setCell ⟨w.heap.size, 2, none⟩ (.int .i64 t28_2)).cell? ⟨w.heap.size, 1, none⟩ = some (.slice t36_a t36_l t36_c) ∧
    Calls Try.prog 11 ⟨[(.pointer t6), (.slice t36_a t36_l t36_c)]⟩ ((((w.alloc (.cells ⟨[(.int .u8 0), (.slice none 0 0), (.int .i64 0)]⟩ 30)).setCell ⟨w.heap.size, 0, none⟩ (.int .u8 t28_0)).setCell ⟨w.heap.size, 1, none⟩ (.slice t28_1_a t28_1_l t28_1_c)).setCell ⟨w.heap.size, 2, none⟩ (.int .i64 t28_2)) fun e w_ =>
      ∃ (t37 : Int),
      e = .returned (.int .i64 t37) ∧
      B1 ((IntKind.i64.wrap (t25 + 1)), ()) w_
  ) (
    cond (decide (((Int.tmod t30 5) : Int) = 1)) (
      ∃ (t42 : Int),
      ((((w.alloc (.cells ⟨[(.int .u8 0), (.slice none 0 0), (.int .i64 0)]⟩ 30)).setCell ⟨w.heap.size, 0, none⟩ (.int .u8 t28_0)).setCell ⟨w.heap.size, 1, none⟩ (.slice t28_1_a t28_1_l t28_1_c)).setCell ⟨w.heap.size, 2, none⟩ (.int .i64 t28_2)).cell? ⟨w.heap.size, 2, none⟩ = some (.int .i64 t42) ∧
      Calls Try.prog 12 ⟨[(.pointer t6), (.int .i64 t42)]⟩ ((((w.alloc (.cells ⟨[(.int .u8 0), (.slice none 0 0), (.int .i64 0)]⟩ 30)).setCell ⟨w.heap.size, 0, none⟩ (.int .u8 t28_0)).setCell ⟨w.heap.size, 1, none⟩ (.slice t28_1_a t28_1_l t28_1_c)).setCell ⟨w.heap.size, 2, none⟩ (.int .i64 t28_2)) fun e w__1 =>
        ∃ (t43_0_a : Option Addr) (t43_0_l : Nat) (t43_0_c : Nat) (t43_1 : Bool),
        e = .returned (.tuple ⟨[(.slice t43_0_a t43_0_l t43_0_c), (.bool t43_1)]⟩) ∧
        B1 ((IntKind.i64.wrap (t25 + 1)), ()) w__1
    ) (
      cond (decide (((Int.tmod t30 5) : Int) = 3)) (
        ∃ (t48 : Int),
        ((((w.alloc (.cells ⟨[(.int .u8 0), (.slice none 0 0), (.int .i64 0)]⟩ 30)).setCell ⟨w.heap.size, 0, none⟩ (.int .u8 t28_0)).setCell ⟨w.heap.size, 1, none⟩ (.slice t28_1_a t28_1_l t28_1_c)).setCell ⟨w.heap.size, 2, none⟩ (.int .i64 t28_2)).cell? ⟨w.heap.size, 2, none⟩ = some (.int .i64 t48) ∧
        Calls Try.prog 18 ⟨[(.pointer t6), (.int .i64 t48)]⟩ ((((w.alloc (.cells ⟨[(.int .u8 0), (.slice none 0 0), (.int .i64 0)]⟩ 30)).setCell ⟨w.heap.size, 0, none⟩ (.int .u8 t28_0)).setCell ⟨w.heap.size, 1, none⟩ (.slice t28_1_a t28_1_l t28_1_c)).setCell ⟨w.heap.size, 2, none⟩ (.int .i64 t28_2)) fun e w__2 =>
          ∃ (t49 : Bool),
          e = .returned (.bool t49) ∧
          B1 ((IntKind.i64.wrap (t25 + 1)), ()) w__2
      ) (
        B1 ((IntKind.i64.wrap (t25 + 1)), ()) ((((w.alloc (.cells ⟨[(.int .u8 0), (.slice none 0 0), (.int .i64 0)]⟩ 30)).setCell ⟨w.heap.size, 0, none⟩ (.int .u8 t28_0)).setCell ⟨w.heap.size, 1, none⟩ (.slice t28_1_a t28_1_l t28_1_c)).setCell ⟨w.heap.size, 2, none⟩ (.int .i64 t28_2))
      )
    )
  )

def S6_k6 (t1 : Int) (t5 : Bool) (t6 : Option Addr) (t9_a : Option Addr) (t9_l : Nat) (t9_c : Nat) (t11_a : Option Addr) (t11_l : Nat) (t11_c : Nat) (t53 : Int) (t54 : Int) (w : World) (R : Value → World → Prop) (B1 : (Option Addr × Nat × Nat) × (Int) × Unit → World → Prop) : Prop :=
  ∃ (t67 : ByteArray) (w_ : World),
  (convert 28 9 (.slice t11_a t11_l t11_c)).run Try.prog w = .ok (.string t67) w_ ∧
  ∃ (t69_a : Option Addr) (t69_l : Nat) (t69_c : Nat) (w__1 : World),
  (Builtin.append_ #[38, 38] 38 ⟨[(.slice t9_a t9_l t9_c), (.slice (some ⟨w_.heap.size, 0, none⟩) 1 1)]⟩).run Try.prog (w_.alloc (.cells ⟨[(.string t67)]⟩ 9)) = .ok (.slice t69_a t69_l t69_c) w__1 ∧
  B1 ((t69_a, t69_l, t69_c), (IntKind.i64.wrap (t54 + 1)), ()) w__1

def S6_k5 (t1 : Int) (t5 : Bool) (t6 : Option Addr) (t9_a : Option Addr) (t9_l : Nat) (t9_c : Nat) (t53 : Int) (t54 : Int) (w : World) (R : Value → World → Prop) (B1 : (Option Addr × Nat × Nat) × (Int) × Unit → World → Prop) : Prop :=
  Calls Try.prog 13 ⟨[(.pointer t6), (.int .i64 t54)]⟩ w fun e w_ =>
    ∃ (t60_0_a : Option Addr) (t60_0_l : Nat) (t60_0_c : Nat) (t60_1 : Bool),
    e = .returned (.tuple ⟨[(.slice t60_0_a t60_0_l t60_0_c), (.bool t60_1)]⟩) ∧
    cond (!t60_1) (
      R (.bool false) w_
    ) (
      S6_k6 t1 t5 t6 t9_a t9_l t9_c t60_0_a t60_0_l t60_0_c t53 t54 w_ R B1
    )

def S6_k14 (t5 : Bool) (t6 : Option Addr) (t9_a : Option Addr) (t9_l : Nat) (t9_c : Nat) (t116 : Int) (t117 : Int) (t136 : Bool) (w : World) (R : Value → World → Prop) (B1 : (Int) × Unit → World → Prop) : Prop :=
  cond t136 (
    R (.bool false) w
  ) (
    B1 ((IntKind.i64.wrap (t117 + 1)), ()) w
  )

def S6_k13 (t5 : Bool) (t6 : Option Addr) (t9_a : Option Addr) (t9_l : Nat) (t9_c : Nat) (t116 : Int) (t117 : Int) (w : World) (R : Value → World → Prop) (B1 : (Int) × Unit → World → Prop) : Prop :=
  Calls Try.prog 13 ⟨[(.pointer t6), (.int .i64 t117)]⟩ w fun e w_ =>
    ∃ (t123_0_a : Option Addr) (t123_0_l : Nat) (t123_0_c : Nat) (t123_1 : Bool),
    e = .returned (.tuple ⟨[(.slice t123_0_a t123_0_l t123_0_c), (.bool t123_1)]⟩) ∧
    cond (!t123_1) (
      (
        S6_k14 t5 t6 t9_a t9_l t9_c t116 t117 true w_.drew R B1
      ) ∧
      (
        S6_k14 t5 t6 t9_a t9_l t9_c t116 t117 true w_.drew R B1
      )
    ) (
      ∃ (t133 : Addr),
      t9_a = some t133 ∧
      0 ≤ (t117 : Int) ∧
      (t117 : Int) < ((t9_l : Nat) : Int) ∧
      (
        ∃ (t130 : ByteArray) (w__1 : World),
        (convert 28 9 (.slice t123_0_a t123_0_l t123_0_c)).run Try.prog w_.drew = .ok (.string t130) w__1 ∧
        ∃ (t134 : ByteArray),
        w__1.cell? (t133.add (Int.toNat t117 * 1)) = some (.string t134) ∧
        S6_k14 t5 t6 t9_a t9_l t9_c t116 t117 (!decide ((t130 : ByteArray) = t134)) w__1 R B1
      ) ∧
      (
        ∃ (t134_1 : ByteArray),
        w_.drew.cell? (t133.add (Int.toNat t117 * 1)) = some (.string t134_1) ∧
        ∃ (t130_1 : ByteArray) (w__2 : World),
        (convert 28 9 (.slice t123_0_a t123_0_l t123_0_c)).run Try.prog w_.drew = .ok (.string t130_1) w__2 ∧
        S6_k14 t5 t6 t9_a t9_l t9_c t116 t117 (!decide ((t130_1 : ByteArray) = t134_1)) w__2 R B1
      )
    )

def S6_L12 (t5 : Bool) (t6 : Option Addr) (t9_a : Option Addr) (t9_l : Nat) (t9_c : Nat) (t116 : Int) (t117 : Int) (w : World) (R : Value → World → Prop) (B1 : (Int) × Unit → World → Prop) : Prop :=
  cond (decide ((t117 : Int) < t116)) (
    S6_k13 t5 t6 t9_a t9_l t9_c t116 t117 w R B1
  ) (
    R (.bool t5) w
  )

def S6_k11 (t5 : Bool) (t6 : Option Addr) (t9_a : Option Addr) (t9_l : Nat) (t9_c : Nat) (w : World) (R : Value → World → Prop) : Prop :=
  ∃ (I : (Int) × Unit → World → Prop) (μ : (Int) × Unit → World → Nat),
  I (0, ()) w ∧
  ∀ (J : Env) (s : (Int) × Unit) (w' : World), I s w' →
    S6_L12 t5 t6 t9_a t9_l t9_c ((t9_l : Nat) : Int) s.1 w' R (fun s' w'' => I s' w'' ∧ μ s' w'' < μ s w')

def S6_k10 (t5 : Bool) (t6 : Option Addr) (t9_a : Option Addr) (t9_l : Nat) (t9_c : Nat) (w : World) (R : Value → World → Prop) : Prop :=
  Calls Try.prog 14 ⟨[(.pointer t6)]⟩ w fun e w_ =>
    ∃ (t111 : Int),
    e = .returned (.int .i64 t111) ∧
    cond (!decide ((t111 : Int) = ((t9_l : Nat) : Int))) (
      R (.bool false) w_
    ) (
      S6_k11 t5 t6 t9_a t9_l t9_c w_ R
    )

def S6_k9 (t1 : Int) (t5 : Bool) (t6 : Option Addr) (t9_a : Option Addr) (t9_l : Nat) (t9_c : Nat) (t14 : Bool) (w : World) (R : Value → World → Prop) : Prop :=
  cond t14 (
    0 ≤ (t1 : Int) ∧
    (t1 : Int) ≤ ((t9_c : Nat) : Int) ∧
    0 ≤ ((IntKind.i64.wrap (t1 + 1)) : Int) ∧
    ((IntKind.i64.wrap (t1 + 1)) : Int) ≤ ((t9_l : Nat) : Int) ∧
    ∃ (t104_a : Option Addr) (t104_l : Nat) (t104_c : Nat) (w_ : World),
    (Builtin.append_ #[38, 38] 38 ⟨[(.slice (some ⟨w.drew.heap.size, 0, none⟩) 0 0), (.slice (slAddr t9_a t9_c 0 1) ((Int.toNat t1) - 0) (t9_c - 0))]⟩).run Try.prog (w.drew.alloc (.cells ⟨[]⟩ 9)) = .ok (.slice t104_a t104_l t104_c) w_ ∧
    ∃ (t109_a : Option Addr) (t109_l : Nat) (t109_c : Nat) (w__1 : World),
    (Builtin.append_ #[38, 38] 38 ⟨[(.slice t104_a t104_l t104_c), (.slice (slAddr t9_a t9_c (Int.toNat (IntKind.i64.wrap (t1 + 1))) 1) (t9_l - (Int.toNat (IntKind.i64.wrap (t1 + 1)))) (t9_c - (Int.toNat (IntKind.i64.wrap (t1 + 1)))))]⟩).run Try.prog w_ = .ok (.slice t109_a t109_l t109_c) w__1 ∧
    S6_k10 t5 t6 t109_a t109_l t109_c w__1 R
  ) (
    S6_k10 t5 t6 t9_a t9_l t9_c w R
  )

def S6_k8 (t1 : Int) (t5 : Bool) (t6 : Option Addr) (t9_a : Option Addr) (t9_l : Nat) (t9_c : Nat) (t14 : Bool) (t98 : Bool) (w : World) (R : Value → World → Prop) : Prop :=
  cond t98 (
    R (.bool false) w
  ) (
    S6_k9 t1 t5 t6 t9_a t9_l t9_c t14 w R
  )

def S6_k7 (t1 : Int) (t5 : Bool) (t6 : Option Addr) (t9_a : Option Addr) (t9_l : Nat) (t9_c : Nat) (w : World) (R : Value → World → Prop) : Prop :=
  Calls Try.prog 12 ⟨[(.pointer t6), (.int .i64 t1)]⟩ w fun e w_ =>
    ∃ (t74_0_a : Option Addr) (t74_0_l : Nat) (t74_0_c : Nat) (t74_1 : Bool),
    e = .returned (.tuple ⟨[(.slice t74_0_a t74_0_l t74_0_c), (.bool t74_1)]⟩) ∧
    cond (decide ((0 : Int) ≤ t1)) (
      cond (!(t74_1 == (decide ((t1 : Int) < ((t9_l : Nat) : Int))))) (
        (
          S6_k8 t1 t5 t6 t9_a t9_l t9_c t74_1 true w_.drew R
        ) ∧
        (
          S6_k8 t1 t5 t6 t9_a t9_l t9_c t74_1 true w_.drew R
        )
      ) (
        cond t74_1 (
          ∃ (t94 : Addr),
          t9_a = some t94 ∧
          0 ≤ (t1 : Int) ∧
          (t1 : Int) < ((t9_l : Nat) : Int) ∧
          (
            ∃ (t91 : ByteArray) (w__1 : World),
            (convert 28 9 (.slice t74_0_a t74_0_l t74_0_c)).run Try.prog w_.drew = .ok (.string t91) w__1 ∧
            ∃ (t95 : ByteArray),
            w__1.cell? (t94.add (Int.toNat t1 * 1)) = some (.string t95) ∧
            S6_k8 t1 t5 t6 t9_a t9_l t9_c t74_1 (!decide ((t91 : ByteArray) = t95)) w__1 R
          ) ∧
          (
            ∃ (t95_1 : ByteArray),
            w_.drew.cell? (t94.add (Int.toNat t1 * 1)) = some (.string t95_1) ∧
            ∃ (t91_1 : ByteArray) (w__2 : World),
            (convert 28 9 (.slice t74_0_a t74_0_l t74_0_c)).run Try.prog w_.drew = .ok (.string t91_1) w__2 ∧
            S6_k8 t1 t5 t6 t9_a t9_l t9_c t74_1 (!decide ((t91_1 : ByteArray) = t95_1)) w__2 R
          )
        ) (
          (
            S6_k8 t1 t5 t6 t9_a t9_l t9_c t74_1 false w_.drew R
          ) ∧
          (
            S6_k8 t1 t5 t6 t9_a t9_l t9_c t74_1 false w_.drew R
          )
        )
      )
    ) (
      cond (!(t74_1 == false)) (
        (
          S6_k8 t1 t5 t6 t9_a t9_l t9_c t74_1 true w_.drew R
        ) ∧
        (
          S6_k8 t1 t5 t6 t9_a t9_l t9_c t74_1 true w_.drew R
        )
      ) (
        cond t74_1 (
          ∃ (t94_1 : Addr),
          t9_a = some t94_1 ∧
          0 ≤ (t1 : Int) ∧
          (t1 : Int) < ((t9_l : Nat) : Int) ∧
          (
            ∃ (t91_2 : ByteArray) (w__3 : World),
            (convert 28 9 (.slice t74_0_a t74_0_l t74_0_c)).run Try.prog w_.drew = .ok (.string t91_2) w__3 ∧
            ∃ (t95_2 : ByteArray),
            w__3.cell? (t94_1.add (Int.toNat t1 * 1)) = some (.string t95_2) ∧
            S6_k8 t1 t5 t6 t9_a t9_l t9_c t74_1 (!decide ((t91_2 : ByteArray) = t95_2)) w__3 R
          ) ∧
          (
            ∃ (t95_3 : ByteArray),
            w_.drew.cell? (t94_1.add (Int.toNat t1 * 1)) = some (.string t95_3) ∧
            ∃ (t91_3 : ByteArray) (w__4 : World),
            (convert 28 9 (.slice t74_0_a t74_0_l t74_0_c)).run Try.prog w_.drew = .ok (.string t91_3) w__4 ∧
            S6_k8 t1 t5 t6 t9_a t9_l t9_c t74_1 (!decide ((t91_3 : ByteArray) = t95_3)) w__4 R
          )
        ) (
          (
            S6_k8 t1 t5 t6 t9_a t9_l t9_c t74_1 false w_.drew R
          ) ∧
          (
            S6_k8 t1 t5 t6 t9_a t9_l t9_c t74_1 false w_.drew R
          )
        )
      )
    )

def S6_L4 (t1 : Int) (t5 : Bool) (t6 : Option Addr) (t9_a : Option Addr) (t9_l : Nat) (t9_c : Nat) (t53 : Int) (t54 : Int) (w : World) (R : Value → World → Prop) (B1 : (Option Addr × Nat × Nat) × (Int) × Unit → World → Prop) : Prop :=
  cond (decide ((t54 : Int) < t53)) (
    S6_k5 t1 t5 t6 t9_a t9_l t9_c t53 t54 w R B1
  ) (
    S6_k7 t1 t5 t6 t9_a t9_l t9_c w R
  )

def S6_k3 (t1 : Int) (t5 : Bool) (t6 : Option Addr) (w : World) (R : Value → World → Prop) : Prop :=
  Calls Try.prog 14 ⟨[(.pointer t6)]⟩ w fun e w_ =>
    ∃ (t52 : Int),
    e = .returned (.int .i64 t52) ∧
    ∃ (I : (Option Addr × Nat × Nat) × (Int) × Unit → World → Prop) (μ : (Option Addr × Nat × Nat) × (Int) × Unit → World → Nat),
    I ((none, 0, 0), 0, ()) w_ ∧
    ∀ (J : Env) (s : (Option Addr × Nat × Nat) × (Int) × Unit) (w' : World), I s w' →
      S6_L4 t1 t5 t6 s.1.1 s.1.2.1 s.1.2.2 (if 100 < t52 then 100 else t52) s.2.1 w' R (fun s' w'' => I s' w'' ∧ μ s' w'' < μ s w')

def S6_L1 (t1 : Int) (t5 : Bool) (t6 : Option Addr) (t23_a : Option Addr) (t23_l : Nat) (t23_c : Nat) (t24 : Int) (t25 : Int) (w : World) (R : Value → World → Prop) (B1 : (Int) × Unit → World → Prop) : Prop :=
  cond (decide ((t25 : Int) < t24)) (
    S6_k2 t1 t5 t6 t23_a t23_l t23_c t24 t25 w R B1
  ) (
    S6_k3 t1 t5 t6 w R
  )

def S6_k0 (l_a : Option Addr) (l_l : Nat) (l_c : Nat) (t1 : Int) (t5 : Bool) (t6 : Option Addr) (w : World) (R : Value → World → Prop) : Prop :=
  Calls Try.prog 10 ⟨[(.slice l_a l_l l_c)]⟩ w fun e w_ =>
    ∃ (t23_a : Option Addr) (t23_l : Nat) (t23_c : Nat),
    e = .returned (.slice t23_a t23_l t23_c) ∧
    ∃ (I : (Int) × Unit → World → Prop) (μ : (Int) × Unit → World → Nat),
    I (0, ()) w_ ∧
    ∀ (J : Env) (s : (Int) × Unit) (w' : World), I s w' →
      S6_L1 t1 t5 t6 t23_a t23_l t23_c ((t23_l : Nat) : Int) s.1 w' R (fun s' w'' => I s' w'' ∧ μ s' w'' < μ s w')

def S6 (l_a : Option Addr) (l_l : Nat) (l_c : Nat) (x1 : Int) (w : World) (R : Value → World → Prop) : Prop :=
  Calls Try.prog 8 ⟨[]⟩ w fun e w_ =>
    ∃ (t18 : Bool),
    e = .returned (.bool t18) ∧
    Calls Try.prog 9 ⟨[]⟩ w_ fun e w__1 =>
      ∃ (t19 : Option Addr),
      e = .returned (.pointer t19) ∧
      cond (Option.isNone t19) (
        R (.bool false) w__1
      ) (
        S6_k0 l_a l_l l_c x1 t18 t19 w__1 R
      )

theorem S6_eq (l_a : Option Addr) (l_l : Nat) (l_c : Nat) (x1 : Int) (w : World) (R : Value → World → Prop) : Eng.R Try.prog ⟨cal, S6_nx⟩ 139 S6_ann [] (Try.f6.body.getD .skip) (bodyQ Try.prog #[.tmp 4] R) (argE [(.slice l_a l_l l_c), (.int .i64 x1)]) w = S6 l_a l_l l_c x1 w R := by kernel_rfl
/-- A call of 'carfax/carfaxlaw13.NetOrder', by its condition. -/
theorem S6_calls {l_a : Option Addr} {l_l : Nat} {l_c : Nat} {x1 : Int} {w : World} {R : Value → World → Prop} (hS : S6 l_a l_l l_c x1 w R) : Ret Try.prog 6 [(.slice l_a l_l l_c), (.int .i64 x1)] w R :=
  R_calls (C := ⟨cal, S6_nx⟩) cal_ok follows Try.func6 (c := Try.f6.body.getD .skip) (res := #[.tmp 4]) (n := 139) (by kernel_rfl) (by kernel_rfl) (by kernel_rfl) (by kernel_rfl) ((S6_eq l_a l_l l_c x1 w R).mpr hS)

def S7_ann (p : List Nat) : Option LA := match p with
  | [0, 1, 0, 1, 1, 1, 1, 1] => some ⟨[1, 5, 6, 7, 19], [(20, .one (.int .i64))]⟩
  | [0, 1, 0, 1, 1, 1, 1, 1, 1] => some ⟨[1, 5, 6, 31], [(32, .one (.int .i64))]⟩
  | _ => none

def S7_nx (t : Nat) : Option (TypeId × TypeId) := none

def S7_k2 (t1 : Bool) (t5 : Bool) (t6 : Option Addr) (t7 : Int) (t19 : Int) (t20 : Int) (w : World) (R : Value → World → Prop) (B1 : (Int) × Unit → World → Prop) : Prop :=
  Calls Try.prog 11 ⟨[(.pointer t6), (.slice (some ⟨w.heap.size, 0, none⟩) 1 1)]⟩ (w.alloc (.cells ⟨[(.int .u8 (IntKind.u8.wrap t20))]⟩ 5)) fun e w_ =>
    ∃ (t27 : Int),
    e = .returned (.int .i64 t27) ∧
    cond (!decide ((t27 : Int) = 0)) (
      R (.bool false) w_
    ) (
      B1 ((IntKind.i64.wrap (t20 + 1)), ()) w_
    )

def S7_k5 (t1 : Bool) (t5 : Bool) (t6 : Option Addr) (t31 : Int) (t32 : Int) (w : World) (R : Value → World → Prop) (B1 : (Int) × Unit → World → Prop) : Prop :=
  Calls Try.prog 11 ⟨[(.pointer t6), (.slice none 0 0)]⟩ w fun e w_ =>
    ∃ (t35 : Int),
    e = .returned (.int .i64 t35) ∧
    cond (!decide ((t35 : Int) = 0)) (
      R (.bool false) w_
    ) (
      B1 ((IntKind.i64.wrap (t32 + 1)), ()) w_
    )

def S7_k12 (t5 : Bool) (t6 : Option Addr) (w : World) (R : Value → World → Prop) : Prop :=
  cond t5 (
    Calls Try.prog 11 ⟨[(.pointer t6), (.slice none 0 0)]⟩ w fun e w_ =>
      ∃ (t66 : Int),
      e = .returned (.int .i64 t66) ∧
      R (.bool (decide ((t66 : Int) = 0))) w_
  ) (
    R (.bool false) w
  )

def S7_k11 (t5 : Bool) (t6 : Option Addr) (t62 : Bool) (w : World) (R : Value → World → Prop) : Prop :=
  cond t62 (
    R (.bool false) w
  ) (
    S7_k12 t5 t6 w R
  )

def S7_k10 (t1 : Bool) (t5 : Bool) (t6 : Option Addr) (w : World) (R : Value → World → Prop) : Prop :=
  Calls Try.prog 12 ⟨[(.pointer t6), (.int .i64 0)]⟩ w fun e w_ =>
    ∃ (t54_0_a : Option Addr) (t54_0_l : Nat) (t54_0_c : Nat) (t54_1 : Bool),
    e = .returned (.tuple ⟨[(.slice t54_0_a t54_0_l t54_0_c), (.bool t54_1)]⟩) ∧
    cond (!t1) (
      S7_k11 t5 t6 (!t54_1) w_ R
    ) (
      S7_k11 t5 t6 false w_ R
    )

def S7_k9 (t1 : Bool) (t5 : Bool) (t6 : Option Addr) (t51 : Bool) (w : World) (R : Value → World → Prop) : Prop :=
  cond t51 (
    R (.bool false) w
  ) (
    S7_k10 t1 t5 t6 w R
  )

def S7_k8 (t1 : Bool) (t5 : Bool) (t6 : Option Addr) (w : World) (R : Value → World → Prop) : Prop :=
  cond t1 (
    Calls Try.prog 18 ⟨[(.pointer t6), (.int .i64 0)]⟩ w fun e w_ =>
      ∃ (t49 : Bool),
      e = .returned (.bool t49) ∧
      S7_k9 t1 t5 t6 (!t49) w_ R
  ) (
    S7_k9 t1 t5 t6 false w R
  )

def S7_k7 (t1 : Bool) (t5 : Bool) (t6 : Option Addr) (t45 : Bool) (w : World) (R : Value → World → Prop) : Prop :=
  cond t45 (
    R (.bool false) w
  ) (
    S7_k8 t1 t5 t6 w R
  )

def S7_k6 (t1 : Bool) (t5 : Bool) (t6 : Option Addr) (w : World) (R : Value → World → Prop) : Prop :=
  Calls Try.prog 11 ⟨[(.pointer t6), (.slice none 0 0)]⟩ w fun e w_ =>
    ∃ (t39 : Int),
    e = .returned (.int .i64 t39) ∧
    cond (!decide ((t39 : Int) = 4)) (
      S7_k7 t1 t5 t6 true w_ R
    ) (
      Calls Try.prog 14 ⟨[(.pointer t6)]⟩ w_ fun e w__1 =>
        ∃ (t43 : Int),
        e = .returned (.int .i64 t43) ∧
        S7_k7 t1 t5 t6 (!decide ((t43 : Int) = 1024)) w__1 R
    )

def S7_L4 (t1 : Bool) (t5 : Bool) (t6 : Option Addr) (t31 : Int) (t32 : Int) (w : World) (R : Value → World → Prop) (B1 : (Int) × Unit → World → Prop) : Prop :=
  cond (decide ((t32 : Int) < t31)) (
    S7_k5 t1 t5 t6 t31 t32 w R B1
  ) (
    S7_k6 t1 t5 t6 w R
  )

def S7_k3 (t1 : Bool) (t5 : Bool) (t6 : Option Addr) (t7 : Int) (w : World) (R : Value → World → Prop) : Prop :=
  ∃ (I : (Int) × Unit → World → Prop) (μ : (Int) × Unit → World → Nat),
  I (0, ()) w ∧
  ∀ (J : Env) (s : (Int) × Unit) (w' : World), I s w' →
    S7_L4 t1 t5 t6 (IntKind.i64.wrap (1024 - t7)) s.1 w' R (fun s' w'' => I s' w'' ∧ μ s' w'' < μ s w')

def S7_L1 (t1 : Bool) (t5 : Bool) (t6 : Option Addr) (t7 : Int) (t19 : Int) (t20 : Int) (w : World) (R : Value → World → Prop) (B1 : (Int) × Unit → World → Prop) : Prop :=
  cond (decide ((t20 : Int) < t19)) (
    S7_k2 t1 t5 t6 t7 t19 t20 w R B1
  ) (
    S7_k3 t1 t5 t6 t7 w R
  )

def S7_k0 (missing : Int) (t1 : Bool) (t5 : Bool) (t6 : Option Addr) (w : World) (R : Value → World → Prop) : Prop :=
  (201 : Int) ≠ 0 ∧
  ∃ (I : (Int) × Unit → World → Prop) (μ : (Int) × Unit → World → Nat),
  I (0, ()) w ∧
  ∀ (J : Env) (s : (Int) × Unit) (w' : World), I s w' →
    S7_L1 t1 t5 t6 (IntKind.i64.wrap (1024 - (IntKind.i64.wrap (Int.tmod missing 201)))) (IntKind.i64.wrap (1024 - (IntKind.i64.wrap (Int.tmod missing 201)))) s.1 w' R (fun s' w'' => I s' w'' ∧ μ s' w'' < μ s w')

def S7 (missing : Int) (x1 : Bool) (w : World) (R : Value → World → Prop) : Prop :=
  Calls Try.prog 8 ⟨[]⟩ w fun e w_ =>
    ∃ (t11 : Bool),
    e = .returned (.bool t11) ∧
    Calls Try.prog 9 ⟨[]⟩ w_ fun e w__1 =>
      ∃ (t12 : Option Addr),
      e = .returned (.pointer t12) ∧
      cond (Option.isNone t12) (
        R (.bool false) w__1
      ) (
        S7_k0 missing x1 t11 t12 w__1 R
      )

theorem S7_eq (missing : Int) (x1 : Bool) (w : World) (R : Value → World → Prop) : Eng.R Try.prog ⟨cal, S7_nx⟩ 69 S7_ann [] (Try.f7.body.getD .skip) (bodyQ Try.prog #[.tmp 4] R) (argE [(.int .u8 missing), (.bool x1)]) w = S7 missing x1 w R := by kernel_rfl
/-- A call of 'carfax/carfaxlaw13.NetFull', by its condition. -/
theorem S7_calls {missing : Int} {x1 : Bool} {w : World} {R : Value → World → Prop} (hS : S7 missing x1 w R) : Ret Try.prog 7 [(.int .u8 missing), (.bool x1)] w R :=
  R_calls (C := ⟨cal, S7_nx⟩) cal_ok follows Try.func7 (c := Try.f7.body.getD .skip) (res := #[.tmp 4]) (n := 69) (by kernel_rfl) (by kernel_rfl) (by kernel_rfl) (by kernel_rfl) ((S7_eq missing x1 w R).mpr hS)

def S8_ann (p : List Nat) : Option LA :=
  none

def S8_nx (t : Nat) : Option (TypeId × TypeId) := none

def S8_k1 (t1 : Option Addr) (w : World) (R : Value → World → Prop) : Prop :=
  Calls Try.prog 12 ⟨[(.pointer t1), (.int .i64 1)]⟩ w fun e w_ =>
    ∃ (t27_0_a : Option Addr) (t27_0_l : Nat) (t27_0_c : Nat) (t27_1 : Bool),
    e = .returned (.tuple ⟨[(.slice t27_0_a t27_0_l t27_0_c), (.bool t27_1)]⟩) ∧
    Calls Try.prog 13 ⟨[(.pointer t1), (.int .i64 0)]⟩ w_ fun e w__1 =>
      ∃ (t32_0_a : Option Addr) (t32_0_l : Nat) (t32_0_c : Nat) (t32_1 : Bool),
      e = .returned (.tuple ⟨[(.slice t32_0_a t32_0_l t32_0_c), (.bool t32_1)]⟩) ∧
      Calls Try.prog 12 ⟨[(.pointer t1), (.int .i64 0)]⟩ w__1 fun e w__2 =>
        ∃ (t37_0_a : Option Addr) (t37_0_l : Nat) (t37_0_c : Nat) (t37_1 : Bool),
        e = .returned (.tuple ⟨[(.slice t37_0_a t37_0_l t37_0_c), (.bool t37_1)]⟩) ∧
        ∃ (t41 : ByteArray) (w__3 : World),
        (convert 28 9 (.slice t27_0_a t27_0_l t27_0_c)).run Try.prog w__2 = .ok (.string t41) w__3 ∧
        cond (decide ((t41 : ByteArray) = (⟨#[98]⟩ : ByteArray))) (
          ∃ (t45 : ByteArray) (w__4 : World),
          (convert 28 9 (.slice t32_0_a t32_0_l t32_0_c)).run Try.prog w__3 = .ok (.string t45) w__4 ∧
          cond (decide ((t45 : ByteArray) = (⟨#[97]⟩ : ByteArray))) (
            ∃ (t50 : ByteArray) (w__5 : World),
            (convert 28 9 (.slice t37_0_a t37_0_l t37_0_c)).run Try.prog w__4 = .ok (.string t50) w__5 ∧
            cond (decide ((t50 : ByteArray) = (⟨#[97]⟩ : ByteArray))) (
              cond t27_1 (
                cond t32_1 (
                  cond t37_1 (
                    Calls Try.prog 14 ⟨[(.pointer t1)]⟩ w__5 fun e w__6 =>
                      ∃ (t64 : Int),
                      e = .returned (.int .i64 t64) ∧
                      R (.bool (decide ((t64 : Int) = 0))) w__6
                  ) (
                    R (.bool false) w__5
                  )
                ) (
                  R (.bool false) w__5
                )
              ) (
                R (.bool false) w__5
              )
            ) (
              R (.bool false) w__5
            )
          ) (
            R (.bool false) w__4
          )
        ) (
          R (.bool false) w__3
        )

def S8_k0 (t1 : Option Addr) (t24 : Bool) (w : World) (R : Value → World → Prop) : Prop :=
  cond t24 (
    R (.bool false) w
  ) (
    S8_k1 t1 w R
  )

def S8 (w : World) (R : Value → World → Prop) : Prop :=
  Calls Try.prog 9 ⟨[]⟩ w fun e w_ =>
    ∃ (t8 : Option Addr),
    e = .returned (.pointer t8) ∧
    cond (Option.isNone t8) (
      S8_k0 t8 true w_ R
    ) (
      ∃ (t14_a : Option Addr) (t14_l : Nat) (t14_c : Nat) (w__1 : World),
      (convert 28 28 (.slice (some ⟨w_.heap.size, 0, none⟩) 1 1)).run Try.prog (w_.alloc (.cells ⟨[(.int .u8 97)]⟩ 5)) = .ok (.slice t14_a t14_l t14_c) w__1 ∧
      Calls Try.prog 11 ⟨[(.pointer t8), (.slice t14_a t14_l t14_c)]⟩ w__1 fun e w__2 =>
        ∃ (t15 : Int),
        e = .returned (.int .i64 t15) ∧
        cond (!decide ((t15 : Int) = 0)) (
          S8_k0 t8 true w__2 R
        ) (
          ∃ (t21_a : Option Addr) (t21_l : Nat) (t21_c : Nat) (w__3 : World),
          (convert 28 28 (.slice (some ⟨w__2.heap.size, 0, none⟩) 1 1)).run Try.prog (w__2.alloc (.cells ⟨[(.int .u8 98)]⟩ 5)) = .ok (.slice t21_a t21_l t21_c) w__3 ∧
          Calls Try.prog 11 ⟨[(.pointer t8), (.slice t21_a t21_l t21_c)]⟩ w__3 fun e w__4 =>
            ∃ (t22 : Int),
            e = .returned (.int .i64 t22) ∧
            S8_k0 t8 (!decide ((t22 : Int) = 0)) w__4 R
        )
    )

theorem S8_eq (w : World) (R : Value → World → Prop) : Eng.R Try.prog ⟨cal, S8_nx⟩ 67 S8_ann [] (Try.f8.body.getD .skip) (bodyQ Try.prog #[.tmp 0] R) (argE []) w = S8  w R := by kernel_rfl
/-- A call of 'carfax/carfaxlaw13.shown', by its condition. -/
theorem S8_calls {w : World} {R : Value → World → Prop} (hS : S8  w R) : Ret Try.prog 8 [] w R :=
  R_calls (C := ⟨cal, S8_nx⟩) cal_ok follows Try.func8 (c := Try.f8.body.getD .skip) (res := #[.tmp 0]) (n := 67) (by kernel_rfl) (by kernel_rfl) (by kernel_rfl) (by kernel_rfl) ((S8_eq  w R).mpr hS)

def S9_ann (p : List Nat) : Option LA :=
  none

def S9_nx (t : Nat) : Option (TypeId × TypeId) := none

def S9 (w : World) (R : Value → World → Prop) : Prop :=
  R (.pointer (some ⟨w.heap.size, 0, none⟩)) (w.alloc (.cells ⟨[(.slice none 0 0)]⟩ 50))

theorem S9_eq (w : World) (R : Value → World → Prop) : Eng.R Try.prog ⟨cal, S9_nx⟩ 2 S9_ann [] (Try.f9.body.getD .skip) (bodyQ Try.prog #[.tmp 0] R) (argE []) w = S9  w R := by kernel_rfl
/-- A call of 'carfax/net.New', by its condition. -/
theorem S9_calls {w : World} {R : Value → World → Prop} (hS : S9  w R) : Ret Try.prog 9 [] w R :=
  R_calls (C := ⟨cal, S9_nx⟩) cal_ok follows Try.func9 (c := Try.f9.body.getD .skip) (res := #[.tmp 0]) (n := 2) (by kernel_rfl) (by kernel_rfl) (by kernel_rfl) (by kernel_rfl) ((S9_eq  w R).mpr hS)

def S10_ann (p : List Nat) : Option LA := match p with
  | [0, 1, 0, 1, 1] => some ⟨[0, 6], [(3, .one (.int .i64)), (7, .one (.int .i64))]⟩
  | _ => none

def S10_nx (t : Nat) : Option (TypeId × TypeId) := none

def S10_k3 (l_a : Option Addr) (l_l : Nat) (l_c : Nat) (left : Int) (i : Int) (t6 : Int) (t7 : Int) (w : World) (R : Value → World → Prop) (B1 : (Int) × (Int) × Unit → World → Prop) : Prop :=
  ∃ (t28 : Addr),
  l_a = some t28 ∧
  0 ≤ (i : Int) ∧
  (i : Int) < ((l_l : Nat) : Int) ∧
  ∃ (t30_a : Option Addr) (t30_l : Nat) (t30_c : Nat),
  w.cell? ((t28.add (Int.toNat i * 3)).add 1) = some (.slice t30_a t30_l t30_c) ∧
  B1 ((IntKind.i64.wrap (left - ((t30_l : Nat) : Int))), (IntKind.i64.wrap (t7 + 1)), ()) w

def S10_k2 (l_a : Option Addr) (l_l : Nat) (l_c : Nat) (left : Int) (i : Int) (t6 : Int) (t7 : Int) (t21 : Bool) (w : World) (R : Value → World → Prop) (B1 : (Int) × (Int) × Unit → World → Prop) : Prop :=
  cond t21 (
    0 ≤ (i : Int) ∧
    (i : Int) ≤ ((l_c : Nat) : Int) ∧
    R (.slice (slAddr l_a l_c 0 3) ((Int.toNat i) - 0) (l_c - 0)) w
  ) (
    S10_k3 l_a l_l l_c left i t6 t7 w R B1
  )

def S10_k1 (l_a : Option Addr) (l_l : Nat) (l_c : Nat) (left : Int) (t6 : Int) (t7 : Int) (w : World) (R : Value → World → Prop) (B1 : (Int) × (Int) × Unit → World → Prop) : Prop :=
  cond (decide ((100 : Int) ≤ t7)) (
    S10_k2 l_a l_l l_c left t7 t6 t7 true w R B1
  ) (
    ∃ (t15 : Addr),
    l_a = some t15 ∧
    0 ≤ (t7 : Int) ∧
    (t7 : Int) < ((l_l : Nat) : Int) ∧
    ∃ (t17_a : Option Addr) (t17_l : Nat) (t17_c : Nat),
    w.cell? ((t15.add (Int.toNat t7 * 3)).add 1) = some (.slice t17_a t17_l t17_c) ∧
    S10_k2 l_a l_l l_c left t7 t6 t7 (decide ((left : Int) < ((t17_l : Nat) : Int))) w R B1
  )

def S10_L0 (l_a : Option Addr) (l_l : Nat) (l_c : Nat) (left : Int) (t6 : Int) (t7 : Int) (w : World) (R : Value → World → Prop) (B1 : (Int) × (Int) × Unit → World → Prop) : Prop :=
  cond (decide ((t7 : Int) < t6)) (
    S10_k1 l_a l_l l_c left t6 t7 w R B1
  ) (
    R (.slice l_a l_l l_c) w
  )

def S10 (l_a : Option Addr) (l_l : Nat) (l_c : Nat) (w : World) (R : Value → World → Prop) : Prop :=
  ∃ (I : (Int) × (Int) × Unit → World → Prop) (μ : (Int) × (Int) × Unit → World → Nat),
  I (10000, 0, ()) w ∧
  ∀ (J : Env) (s : (Int) × (Int) × Unit) (w' : World), I s w' →
    S10_L0 l_a l_l l_c s.1 ((l_l : Nat) : Int) s.2.1 w' R (fun s' w'' => I s' w'' ∧ μ s' w'' < μ s w')

theorem S10_eq (l_a : Option Addr) (l_l : Nat) (l_c : Nat) (w : World) (R : Value → World → Prop) : Eng.R Try.prog ⟨cal, S10_nx⟩ 35 S10_ann [] (Try.f10.body.getD .skip) (bodyQ Try.prog #[.tmp 2] R) (argE [(.slice l_a l_l l_c)]) w = S10 l_a l_l l_c w R := by kernel_rfl
/-- A call of 'carfax/carfaxlaw13.few', by its condition. -/
theorem S10_calls {l_a : Option Addr} {l_l : Nat} {l_c : Nat} {w : World} {R : Value → World → Prop} (hS : S10 l_a l_l l_c w R) : Ret Try.prog 10 [(.slice l_a l_l l_c)] w R :=
  R_calls (C := ⟨cal, S10_nx⟩) cal_ok follows Try.func10 (c := Try.f10.body.getD .skip) (res := #[.tmp 2]) (n := 35) (by kernel_rfl) (by kernel_rfl) (by kernel_rfl) (by kernel_rfl) ((S10_eq l_a l_l l_c w R).mpr hS)

def S11_ann (p : List Nat) : Option LA :=
  none

def S11_nx (t : Nat) : Option (TypeId × TypeId) := none

def S11_k0 (n_ : Option Addr) (b_a : Option Addr) (b_l : Nat) (b_c : Nat) (w : World) (R : Value → World → Prop) : Prop :=
  ∃ (t17 : Addr),
  n_ = some t17 ∧
  (
    ∃ (t19_a : Option Addr) (t19_l : Nat) (t19_c : Nat),
    w.drew.cell? t17 = some (.slice t19_a t19_l t19_c) ∧
    Calls Try.prog 19 ⟨[(.slice b_a b_l b_c)]⟩ w.drew fun e w_ =>
      ∃ (t21_a : Option Addr) (t21_l : Nat) (t21_c : Nat),
      e = .returned (.slice t21_a t21_l t21_c) ∧
      ∃ (t23_a : Option Addr) (t23_l : Nat) (t23_c : Nat) (w__1 : World),
      (Builtin.append_ #[48, 48] 48 ⟨[(.slice t19_a t19_l t19_c), (.slice (some ⟨w_.heap.size, 0, none⟩) 1 1)]⟩).run Try.prog (w_.alloc (.cells ⟨[(.slice t21_a t21_l t21_c)]⟩ 28)) = .ok (.slice t23_a t23_l t23_c) w__1 ∧
      ∃ (t24 : Addr),
      n_ = some t24 ∧
      (∃ u, w__1.cell? t24 = some u) ∧
      w__1.frozen? t24 = false ∧
      R (.int .i64 0) (w__1.setCell t24 (.slice t23_a t23_l t23_c))
  ) ∧
  (
    Calls Try.prog 19 ⟨[(.slice b_a b_l b_c)]⟩ w.drew fun e w__2 =>
      ∃ (t21_a_1 : Option Addr) (t21_l_1 : Nat) (t21_c_1 : Nat),
      e = .returned (.slice t21_a_1 t21_l_1 t21_c_1) ∧
      ∃ (t19_a_1 : Option Addr) (t19_l_1 : Nat) (t19_c_1 : Nat),
      w__2.cell? t17 = some (.slice t19_a_1 t19_l_1 t19_c_1) ∧
      ∃ (t23_a_1 : Option Addr) (t23_l_1 : Nat) (t23_c_1 : Nat) (w__3 : World),
      (Builtin.append_ #[48, 48] 48 ⟨[(.slice t19_a_1 t19_l_1 t19_c_1), (.slice (some ⟨w__2.heap.size, 0, none⟩) 1 1)]⟩).run Try.prog (w__2.alloc (.cells ⟨[(.slice t21_a_1 t21_l_1 t21_c_1)]⟩ 28)) = .ok (.slice t23_a_1 t23_l_1 t23_c_1) w__3 ∧
      ∃ (t24_1 : Addr),
      n_ = some t24_1 ∧
      (∃ u, w__3.cell? t24_1 = some u) ∧
      w__3.frozen? t24_1 = false ∧
      R (.int .i64 0) (w__3.setCell t24_1 (.slice t23_a_1 t23_l_1 t23_c_1))
  )

def S11 (n_ : Option Addr) (b_a : Option Addr) (b_l : Nat) (b_c : Nat) (w : World) (R : Value → World → Prop) : Prop :=
  cond (Option.isNone n_) (
    R (.int .i64 2) w
  ) (
    ∃ (t10 : Addr),
    n_ = some t10 ∧
    ∃ (t12_a : Option Addr) (t12_l : Nat) (t12_c : Nat),
    w.cell? t10 = some (.slice t12_a t12_l t12_c) ∧
    cond (decide ((1024 : Int) ≤ ((t12_l : Nat) : Int))) (
      R (.int .i64 4) w
    ) (
      S11_k0 n_ b_a b_l b_c w R
    )
  )

theorem S11_eq (n_ : Option Addr) (b_a : Option Addr) (b_l : Nat) (b_c : Nat) (w : World) (R : Value → World → Prop) : Eng.R Try.prog ⟨cal, S11_nx⟩ 26 S11_ann [] (Try.f11.body.getD .skip) (bodyQ Try.prog #[.tmp 4] R) (argE [(.pointer n_), (.slice b_a b_l b_c)]) w = S11 n_ b_a b_l b_c w R := by kernel_rfl
/-- A call of '(*carfax/net.Net).Send', by its condition. -/
theorem S11_calls {n_ : Option Addr} {b_a : Option Addr} {b_l : Nat} {b_c : Nat} {w : World} {R : Value → World → Prop} (hS : S11 n_ b_a b_l b_c w R) : Ret Try.prog 11 [(.pointer n_), (.slice b_a b_l b_c)] w R :=
  R_calls (C := ⟨cal, S11_nx⟩) cal_ok follows Try.func11 (c := Try.f11.body.getD .skip) (res := #[.tmp 4]) (n := 26) (by kernel_rfl) (by kernel_rfl) (by kernel_rfl) (by kernel_rfl) ((S11_eq n_ b_a b_l b_c w R).mpr hS)

def S12_ann (p : List Nat) : Option LA :=
  none

def S12_nx (t : Nat) : Option (TypeId × TypeId) := none

def S12_k0 (b_a : Option Addr) (b_l : Nat) (b_c : Nat) (is : Bool) (w : World) (R : Value → World → Prop) : Prop :=
  R (.tuple ⟨[(.slice b_a b_l b_c), (.bool is)]⟩) w

def S12 (n_ : Option Addr) (at_ : Int) (w : World) (R : Value → World → Prop) : Prop :=
  Calls Try.prog 13 ⟨[(.pointer n_), (.int .i64 at_)]⟩ w fun e w_ =>
    ∃ (t11_0_a : Option Addr) (t11_0_l : Nat) (t11_0_c : Nat) (t11_1 : Bool),
    e = .returned (.tuple ⟨[(.slice t11_0_a t11_0_l t11_0_c), (.bool t11_1)]⟩) ∧
    cond t11_1 (
      ∃ (t17 : Addr),
      n_ = some t17 ∧
      ∃ (t19_a : Option Addr) (t19_l : Nat) (t19_c : Nat),
      w_.cell? t17 = some (.slice t19_a t19_l t19_c) ∧
      Calls Try.prog 20 ⟨[(.slice t19_a t19_l t19_c), (.int .i64 at_), (.int .i64 (IntKind.i64.wrap (at_ + 1)))]⟩ w_ fun e w__1 =>
        ∃ (t23_a : Option Addr) (t23_l : Nat) (t23_c : Nat),
        e = .returned (.slice t23_a t23_l t23_c) ∧
        ∃ (t24 : Addr),
        n_ = some t24 ∧
        (∃ u, w__1.cell? t24 = some u) ∧
        w__1.frozen? t24 = false ∧
        S12_k0 t11_0_a t11_0_l t11_0_c t11_1 (w__1.setCell t24 (.slice t23_a t23_l t23_c)) R
    ) (
      S12_k0 t11_0_a t11_0_l t11_0_c t11_1 w_ R
    )

theorem S12_eq (n_ : Option Addr) (at_ : Int) (w : World) (R : Value → World → Prop) : Eng.R Try.prog ⟨cal, S12_nx⟩ 28 S12_ann [] (Try.f12.body.getD .skip) (bodyQ Try.prog #[.tmp 4, .tmp 5] R) (argE [(.pointer n_), (.int .i64 at_)]) w = S12 n_ at_ w R := by kernel_rfl
/-- A call of '(*carfax/net.Net).Take', by its condition. -/
theorem S12_calls {n_ : Option Addr} {at_ : Int} {w : World} {R : Value → World → Prop} (hS : S12 n_ at_ w R) : Ret Try.prog 12 [(.pointer n_), (.int .i64 at_)] w R :=
  R_calls (C := ⟨cal, S12_nx⟩) cal_ok follows Try.func12 (c := Try.f12.body.getD .skip) (res := #[.tmp 4, .tmp 5]) (n := 28) (by kernel_rfl) (by kernel_rfl) (by kernel_rfl) (by kernel_rfl) ((S12_eq n_ at_ w R).mpr hS)

def S13_ann (p : List Nat) : Option LA :=
  none

def S13_nx (t : Nat) : Option (TypeId × TypeId) := none

def S13_k1 (n_ : Option Addr) (at_ : Int) (w : World) (R : Value → World → Prop) : Prop :=
  ∃ (t18 : Addr),
  n_ = some t18 ∧
  ∃ (t20_a : Option Addr) (t20_l : Nat) (t20_c : Nat),
  w.cell? t18 = some (.slice t20_a t20_l t20_c) ∧
  ∃ (t22 : Addr),
  t20_a = some t22 ∧
  0 ≤ (at_ : Int) ∧
  (at_ : Int) < ((t20_l : Nat) : Int) ∧
  ∃ (t23_a : Option Addr) (t23_l : Nat) (t23_c : Nat),
  w.cell? (t22.add (Int.toNat at_ * 1)) = some (.slice t23_a t23_l t23_c) ∧
  Calls Try.prog 19 ⟨[(.slice t23_a t23_l t23_c)]⟩ w fun e w_ =>
    ∃ (t24_a : Option Addr) (t24_l : Nat) (t24_c : Nat),
    e = .returned (.slice t24_a t24_l t24_c) ∧
    R (.tuple ⟨[(.slice t24_a t24_l t24_c), (.bool true)]⟩) w_

def S13_k0 (n_ : Option Addr) (at_ : Int) (t16 : Bool) (w : World) (R : Value → World → Prop) : Prop :=
  cond t16 (
    R (.tuple ⟨[(.slice none 0 0), (.bool false)]⟩) w
  ) (
    S13_k1 n_ at_ w R
  )

def S13 (n_ : Option Addr) (at_ : Int) (w : World) (R : Value → World → Prop) : Prop :=
  cond (Option.isNone n_) (
    S13_k0 n_ at_ true w R
  ) (
    ∃ (t10 : Addr),
    n_ = some t10 ∧
    ∃ (t12_a : Option Addr) (t12_l : Nat) (t12_c : Nat),
    w.cell? t10 = some (.slice t12_a t12_l t12_c) ∧
    Calls Try.prog 21 ⟨[(.slice t12_a t12_l t12_c), (.int .i64 at_)]⟩ w fun e w_ =>
      ∃ (t14 : Bool),
      e = .returned (.bool t14) ∧
      S13_k0 n_ at_ (!t14) w_ R
  )

theorem S13_eq (n_ : Option Addr) (at_ : Int) (w : World) (R : Value → World → Prop) : Eng.R Try.prog ⟨cal, S13_nx⟩ 25 S13_ann [] (Try.f13.body.getD .skip) (bodyQ Try.prog #[.tmp 4, .tmp 5] R) (argE [(.pointer n_), (.int .i64 at_)]) w = S13 n_ at_ w R := by kernel_rfl
/-- A call of '(*carfax/net.Net).Peek', by its condition. -/
theorem S13_calls {n_ : Option Addr} {at_ : Int} {w : World} {R : Value → World → Prop} (hS : S13 n_ at_ w R) : Ret Try.prog 13 [(.pointer n_), (.int .i64 at_)] w R :=
  R_calls (C := ⟨cal, S13_nx⟩) cal_ok follows Try.func13 (c := Try.f13.body.getD .skip) (res := #[.tmp 4, .tmp 5]) (n := 25) (by kernel_rfl) (by kernel_rfl) (by kernel_rfl) (by kernel_rfl) ((S13_eq n_ at_ w R).mpr hS)

def S14_ann (p : List Nat) : Option LA :=
  none

def S14_nx (t : Nat) : Option (TypeId × TypeId) := none

def S14_k0 (n_ : Option Addr) (w : World) (R : Value → World → Prop) : Prop :=
  ∃ (t6 : Addr),
  n_ = some t6 ∧
  ∃ (t8_a : Option Addr) (t8_l : Nat) (t8_c : Nat),
  w.cell? t6 = some (.slice t8_a t8_l t8_c) ∧
  R (.int .i64 ((t8_l : Nat) : Int)) w

def S14 (n_ : Option Addr) (w : World) (R : Value → World → Prop) : Prop :=
  cond (Option.isNone n_) (
    R (.int .i64 0) w
  ) (
    S14_k0 n_ w R
  )

theorem S14_eq (n_ : Option Addr) (w : World) (R : Value → World → Prop) : Eng.R Try.prog ⟨cal, S14_nx⟩ 10 S14_ann [] (Try.f14.body.getD .skip) (bodyQ Try.prog #[.tmp 2] R) (argE [(.pointer n_)]) w = S14 n_ w R := by kernel_rfl
/-- A call of '(*carfax/net.Net).Len', by its condition. -/
theorem S14_calls {n_ : Option Addr} {w : World} {R : Value → World → Prop} (hS : S14 n_ w R) : Ret Try.prog 14 [(.pointer n_)] w R :=
  R_calls (C := ⟨cal, S14_nx⟩) cal_ok follows Try.func14 (c := Try.f14.body.getD .skip) (res := #[.tmp 2]) (n := 10) (by kernel_rfl) (by kernel_rfl) (by kernel_rfl) (by kernel_rfl) ((S14_eq n_ w R).mpr hS)

def S15_ann (p : List Nat) : Option LA :=
  none

def S15_nx (t : Nat) : Option (TypeId × TypeId) := none

def S15_k0 (n_ : Option Addr) (b : ByteArray) (w : World) (R : Value → World → Prop) : Prop :=
  ∃ (t13 : Addr),
  n_ = some t13 ∧
  ∃ (t15_a : Option Addr) (t15_l : Nat) (t15_c : Nat),
  w.cell? t13 = some (.slice t15_a t15_l t15_c) ∧
  ∃ (t18_a : Option Addr) (t18_l : Nat) (t18_c : Nat) (w_ : World),
  (Builtin.append_ #[38, 38] 38 ⟨[(.slice t15_a t15_l t15_c), (.slice (some ⟨w.heap.size, 0, none⟩) 1 1)]⟩).run Try.prog (w.alloc (.cells ⟨[(.string b)]⟩ 9)) = .ok (.slice t18_a t18_l t18_c) w_ ∧
  ∃ (t19 : Addr),
  n_ = some t19 ∧
  (∃ u, w_.cell? t19 = some u) ∧
  w_.frozen? t19 = false ∧
  R (.int .i64 0) (w_.setCell t19 (.slice t18_a t18_l t18_c))

def S15 (n_ : Option Addr) (b : ByteArray) (w : World) (R : Value → World → Prop) : Prop :=
  ∃ (t6 : Addr),
  n_ = some t6 ∧
  ∃ (t8_a : Option Addr) (t8_l : Nat) (t8_c : Nat),
  w.cell? t6 = some (.slice t8_a t8_l t8_c) ∧
  cond (decide ((1024 : Int) ≤ ((t8_l : Nat) : Int))) (
    R (.int .i64 4) w
  ) (
    S15_k0 n_ b w R
  )

theorem S15_eq (n_ : Option Addr) (b : ByteArray) (w : World) (R : Value → World → Prop) : Eng.R Try.prog ⟨cal, S15_nx⟩ 21 S15_ann [] (Try.f15.body.getD .skip) (bodyQ Try.prog #[.tmp 4] R) (argE [(.pointer n_), (.string b)]) w = S15 n_ b w R := by kernel_rfl
/-- A call of '(*carfax/carfaxref13.Net).Send', by its condition. -/
theorem S15_calls {n_ : Option Addr} {b : ByteArray} {w : World} {R : Value → World → Prop} (hS : S15 n_ b w R) : Ret Try.prog 15 [(.pointer n_), (.string b)] w R :=
  R_calls (C := ⟨cal, S15_nx⟩) cal_ok follows Try.func15 (c := Try.f15.body.getD .skip) (res := #[.tmp 4]) (n := 21) (by kernel_rfl) (by kernel_rfl) (by kernel_rfl) (by kernel_rfl) ((S15_eq n_ b w R).mpr hS)

def S16_ann (p : List Nat) : Option LA :=
  none

def S16_nx (t : Nat) : Option (TypeId × TypeId) := none

def S16_k0 (b : ByteArray) (is : Bool) (w : World) (R : Value → World → Prop) : Prop :=
  R (.tuple ⟨[(.string b), (.bool is)]⟩) w

def S16 (n_ : Option Addr) (at_ : Int) (w : World) (R : Value → World → Prop) : Prop :=
  Calls Try.prog 17 ⟨[(.pointer n_), (.int .i64 at_)]⟩ w fun e w_ =>
    ∃ (t12_0 : ByteArray) (t12_1 : Bool),
    e = .returned (.tuple ⟨[(.string t12_0), (.bool t12_1)]⟩) ∧
    cond t12_1 (
      ∃ (t18 : Addr),
      n_ = some t18 ∧
      ∃ (t20_a : Option Addr) (t20_l : Nat) (t20_c : Nat),
      (w_.alloc (.cells ⟨[]⟩ 9)).cell? t18 = some (.slice t20_a t20_l t20_c) ∧
      0 ≤ (at_ : Int) ∧
      (at_ : Int) ≤ ((t20_c : Nat) : Int) ∧
      ∃ (t23_a : Option Addr) (t23_l : Nat) (t23_c : Nat) (w__1 : World),
      (Builtin.append_ #[38, 38] 38 ⟨[(.slice (some ⟨w_.heap.size, 0, none⟩) 0 0), (.slice (slAddr t20_a t20_c 0 1) ((Int.toNat at_) - 0) (t20_c - 0))]⟩).run Try.prog (w_.alloc (.cells ⟨[]⟩ 9)) = .ok (.slice t23_a t23_l t23_c) w__1 ∧
      ∃ (t26 : Addr),
      n_ = some t26 ∧
      ∃ (t28_a : Option Addr) (t28_l : Nat) (t28_c : Nat),
      w__1.cell? t26 = some (.slice t28_a t28_l t28_c) ∧
      0 ≤ ((IntKind.i64.wrap (at_ + 1)) : Int) ∧
      ((IntKind.i64.wrap (at_ + 1)) : Int) ≤ ((t28_l : Nat) : Int) ∧
      ∃ (t32_a : Option Addr) (t32_l : Nat) (t32_c : Nat) (w__2 : World),
      (Builtin.append_ #[38, 38] 38 ⟨[(.slice t23_a t23_l t23_c), (.slice (slAddr t28_a t28_c (Int.toNat (IntKind.i64.wrap (at_ + 1))) 1) (t28_l - (Int.toNat (IntKind.i64.wrap (at_ + 1)))) (t28_c - (Int.toNat (IntKind.i64.wrap (at_ + 1)))))]⟩).run Try.prog w__1 = .ok (.slice t32_a t32_l t32_c) w__2 ∧
      ∃ (t35 : Addr),
      n_ = some t35 ∧
      (∃ u, w__2.cell? t35 = some u) ∧
      w__2.frozen? t35 = false ∧
      S16_k0 t12_0 t12_1 (w__2.setCell t35 (.slice t32_a t32_l t32_c)) R
    ) (
      S16_k0 t12_0 t12_1 w_ R
    )

theorem S16_eq (n_ : Option Addr) (at_ : Int) (w : World) (R : Value → World → Prop) : Eng.R Try.prog ⟨cal, S16_nx⟩ 39 S16_ann [] (Try.f16.body.getD .skip) (bodyQ Try.prog #[.tmp 4, .tmp 5] R) (argE [(.pointer n_), (.int .i64 at_)]) w = S16 n_ at_ w R := by kernel_rfl
/-- A call of '(*carfax/carfaxref13.Net).Take', by its condition. -/
theorem S16_calls {n_ : Option Addr} {at_ : Int} {w : World} {R : Value → World → Prop} (hS : S16 n_ at_ w R) : Ret Try.prog 16 [(.pointer n_), (.int .i64 at_)] w R :=
  R_calls (C := ⟨cal, S16_nx⟩) cal_ok follows Try.func16 (c := Try.f16.body.getD .skip) (res := #[.tmp 4, .tmp 5]) (n := 39) (by kernel_rfl) (by kernel_rfl) (by kernel_rfl) (by kernel_rfl) ((S16_eq n_ at_ w R).mpr hS)

def S17_ann (p : List Nat) : Option LA :=
  none

def S17_nx (t : Nat) : Option (TypeId × TypeId) := none

def S17_k1 (n_ : Option Addr) (at_ : Int) (w : World) (R : Value → World → Prop) : Prop :=
  ∃ (t18 : Addr),
  n_ = some t18 ∧
  ∃ (t20_a : Option Addr) (t20_l : Nat) (t20_c : Nat),
  w.cell? t18 = some (.slice t20_a t20_l t20_c) ∧
  ∃ (t22 : Addr),
  t20_a = some t22 ∧
  0 ≤ (at_ : Int) ∧
  (at_ : Int) < ((t20_l : Nat) : Int) ∧
  ∃ (t23 : ByteArray),
  w.cell? (t22.add (Int.toNat at_ * 1)) = some (.string t23) ∧
  R (.tuple ⟨[(.string t23), (.bool true)]⟩) w

def S17_k0 (n_ : Option Addr) (at_ : Int) (t16 : Bool) (w : World) (R : Value → World → Prop) : Prop :=
  cond t16 (
    R (.tuple ⟨[(.string (⟨#[]⟩ : ByteArray)), (.bool false)]⟩) w
  ) (
    S17_k1 n_ at_ w R
  )

def S17 (n_ : Option Addr) (at_ : Int) (w : World) (R : Value → World → Prop) : Prop :=
  cond (decide ((at_ : Int) < 0)) (
    S17_k0 n_ at_ true w R
  ) (
    ∃ (t11 : Addr),
    n_ = some t11 ∧
    ∃ (t13_a : Option Addr) (t13_l : Nat) (t13_c : Nat),
    w.cell? t11 = some (.slice t13_a t13_l t13_c) ∧
    S17_k0 n_ at_ (decide ((((t13_l : Nat) : Int) : Int) ≤ at_)) w R
  )

theorem S17_eq (n_ : Option Addr) (at_ : Int) (w : World) (R : Value → World → Prop) : Eng.R Try.prog ⟨cal, S17_nx⟩ 24 S17_ann [] (Try.f17.body.getD .skip) (bodyQ Try.prog #[.tmp 4, .tmp 5] R) (argE [(.pointer n_), (.int .i64 at_)]) w = S17 n_ at_ w R := by kernel_rfl
/-- A call of '(*carfax/carfaxref13.Net).Peek', by its condition. -/
theorem S17_calls {n_ : Option Addr} {at_ : Int} {w : World} {R : Value → World → Prop} (hS : S17 n_ at_ w R) : Ret Try.prog 17 [(.pointer n_), (.int .i64 at_)] w R :=
  R_calls (C := ⟨cal, S17_nx⟩) cal_ok follows Try.func17 (c := Try.f17.body.getD .skip) (res := #[.tmp 4, .tmp 5]) (n := 24) (by kernel_rfl) (by kernel_rfl) (by kernel_rfl) (by kernel_rfl) ((S17_eq n_ at_ w R).mpr hS)

def S18_ann (p : List Nat) : Option LA :=
  none

def S18_nx (t : Nat) : Option (TypeId × TypeId) := none

def S18 (n_ : Option Addr) (at_ : Int) (w : World) (R : Value → World → Prop) : Prop :=
  Calls Try.prog 12 ⟨[(.pointer n_), (.int .i64 at_)]⟩ w fun e w_ =>
    ∃ (t10_0_a : Option Addr) (t10_0_l : Nat) (t10_0_c : Nat) (t10_1 : Bool),
    e = .returned (.tuple ⟨[(.slice t10_0_a t10_0_l t10_0_c), (.bool t10_1)]⟩) ∧
    R (.bool t10_1) w_

theorem S18_eq (n_ : Option Addr) (at_ : Int) (w : World) (R : Value → World → Prop) : Eng.R Try.prog ⟨cal, S18_nx⟩ 14 S18_ann [] (Try.f18.body.getD .skip) (bodyQ Try.prog #[.tmp 4] R) (argE [(.pointer n_), (.int .i64 at_)]) w = S18 n_ at_ w R := by kernel_rfl
/-- A call of '(*carfax/net.Net).Lose', by its condition. -/
theorem S18_calls {n_ : Option Addr} {at_ : Int} {w : World} {R : Value → World → Prop} (hS : S18 n_ at_ w R) : Ret Try.prog 18 [(.pointer n_), (.int .i64 at_)] w R :=
  R_calls (C := ⟨cal, S18_nx⟩) cal_ok follows Try.func18 (c := Try.f18.body.getD .skip) (res := #[.tmp 4]) (n := 14) (by kernel_rfl) (by kernel_rfl) (by kernel_rfl) (by kernel_rfl) ((S18_eq n_ at_ w R).mpr hS)

def S19_ann (p : List Nat) : Option LA :=
  none

def S19_nx (t : Nat) : Option (TypeId × TypeId) := none

def S19_k0 (s_a : Option Addr) (s_l : Nat) (s_c : Nat) (w : World) (R : Value → World → Prop) : Prop :=
  ∃ (t7_a : Option Addr) (t7_l : Nat) (t7_c : Nat) (w_ : World),
  (Builtin.append_ #[28, 28] 28 ⟨[(.slice (some ⟨w.heap.size, 0, none⟩) 0 0), (.slice s_a s_l s_c)]⟩).run Try.prog (w.alloc (.cells ⟨[]⟩ 5)) = .ok (.slice t7_a t7_l t7_c) w_ ∧
  R (.slice t7_a t7_l t7_c) w_

def S19 (s_a : Option Addr) (s_l : Nat) (s_c : Nat) (w : World) (R : Value → World → Prop) : Prop :=
  cond (Option.isNone s_a) (
    R (.slice none 0 0) w
  ) (
    S19_k0 s_a s_l s_c w R
  )

theorem S19_eq (s_a : Option Addr) (s_l : Nat) (s_c : Nat) (w : World) (R : Value → World → Prop) : Eng.R Try.prog ⟨cal, S19_nx⟩ 8 S19_ann [] (Try.f19.body.getD .skip) (bodyQ Try.prog #[.tmp 2] R) (argE [(.slice s_a s_l s_c)]) w = S19 s_a s_l s_c w R := by kernel_rfl
/-- A call of 'slices.Clone[[]byte,byte]', by its condition. -/
theorem S19_calls {s_a : Option Addr} {s_l : Nat} {s_c : Nat} {w : World} {R : Value → World → Prop} (hS : S19 s_a s_l s_c w R) : Ret Try.prog 19 [(.slice s_a s_l s_c)] w R :=
  R_calls (C := ⟨cal, S19_nx⟩) cal_ok follows Try.func19 (c := Try.f19.body.getD .skip) (res := #[.tmp 2]) (n := 8) (by kernel_rfl) (by kernel_rfl) (by kernel_rfl) (by kernel_rfl) ((S19_eq s_a s_l s_c w R).mpr hS)

def S20_ann (p : List Nat) : Option LA :=
  none

def S20_nx (t : Nat) : Option (TypeId × TypeId) := none

def S20_k1 (s_a : Option Addr) (s_l : Nat) (s_c : Nat) (oldlen : Int) (w : World) (R : Value → World → Prop) : Prop :=
  0 ≤ (oldlen : Int) ∧
  (oldlen : Int) ≤ ((s_c : Nat) : Int) ∧
  0 ≤ (((s_l : Nat) : Int) : Int) ∧
  (((s_l : Nat) : Int) : Int) ≤ (((Int.toNat oldlen) : Nat) : Int) ∧
  ∃ (w_ : World),
  (Builtin.clear_ #[48] 0 ⟨[(.slice (slAddr s_a s_c (Int.toNat ((s_l : Nat) : Int)) 1) ((Int.toNat oldlen) - (Int.toNat ((s_l : Nat) : Int))) (s_c - (Int.toNat ((s_l : Nat) : Int))))]⟩).run Try.prog w = .ok (.tuple ⟨[]⟩) w_ ∧
  R (.slice s_a s_l s_c) w_

def S20_k0 (s_a : Option Addr) (s_l : Nat) (s_c : Nat) (i : Int) (j : Int) (w : World) (R : Value → World → Prop) : Prop :=
  0 ≤ (i : Int) ∧
  (i : Int) ≤ ((s_c : Nat) : Int) ∧
  0 ≤ (j : Int) ∧
  (j : Int) ≤ ((s_l : Nat) : Int) ∧
  ∃ (t26_a : Option Addr) (t26_l : Nat) (t26_c : Nat) (w_ : World),
  (Builtin.append_ #[48, 48] 48 ⟨[(.slice (slAddr s_a s_c 0 1) ((Int.toNat i) - 0) (s_c - 0)), (.slice (slAddr s_a s_c (Int.toNat j) 1) (s_l - (Int.toNat j)) (s_c - (Int.toNat j)))]⟩).run Try.prog w.drew = .ok (.slice t26_a t26_l t26_c) w_ ∧
  S20_k1 t26_a t26_l t26_c ((s_l : Nat) : Int) w_ R

def S20 (s_a : Option Addr) (s_l : Nat) (s_c : Nat) (i : Int) (j : Int) (w : World) (R : Value → World → Prop) : Prop :=
  0 ≤ (((s_l : Nat) : Int) : Int) ∧
  (((s_l : Nat) : Int) : Int) ≤ ((s_c : Nat) : Int) ∧
  0 ≤ (j : Int) ∧
  (j : Int) ≤ (((Int.toNat ((s_l : Nat) : Int)) : Nat) : Int) ∧
  0 ≤ (i : Int) ∧
  (i : Int) ≤ (((Int.toNat j) : Nat) : Int) ∧
  cond (decide ((i : Int) = j)) (
    R (.slice s_a s_l s_c) w
  ) (
    S20_k0 s_a s_l s_c i j w R
  )

theorem S20_eq (s_a : Option Addr) (s_l : Nat) (s_c : Nat) (i : Int) (j : Int) (w : World) (R : Value → World → Prop) : Eng.R Try.prog ⟨cal, S20_nx⟩ 33 S20_ann [] (Try.f20.body.getD .skip) (bodyQ Try.prog #[.tmp 6] R) (argE [(.slice s_a s_l s_c), (.int .i64 i), (.int .i64 j)]) w = S20 s_a s_l s_c i j w R := by kernel_rfl
/-- A call of 'slices.Delete[[][]byte,[]byte]', by its condition. -/
theorem S20_calls {s_a : Option Addr} {s_l : Nat} {s_c : Nat} {i : Int} {j : Int} {w : World} {R : Value → World → Prop} (hS : S20 s_a s_l s_c i j w R) : Ret Try.prog 20 [(.slice s_a s_l s_c), (.int .i64 i), (.int .i64 j)] w R :=
  R_calls (C := ⟨cal, S20_nx⟩) cal_ok follows Try.func20 (c := Try.f20.body.getD .skip) (res := #[.tmp 6]) (n := 33) (by kernel_rfl) (by kernel_rfl) (by kernel_rfl) (by kernel_rfl) ((S20_eq s_a s_l s_c i j w R).mpr hS)

def S21_ann (p : List Nat) : Option LA :=
  none

def S21_nx (t : Nat) : Option (TypeId × TypeId) := none

def S21 (l_a : Option Addr) (l_l : Nat) (l_c : Nat) (at_ : Int) (w : World) (R : Value → World → Prop) : Prop :=
  cond (decide ((0 : Int) ≤ at_)) (
    R (.bool (decide ((at_ : Int) < ((l_l : Nat) : Int)))) w
  ) (
    R (.bool false) w
  )

theorem S21_eq (l_a : Option Addr) (l_l : Nat) (l_c : Nat) (at_ : Int) (w : World) (R : Value → World → Prop) : Eng.R Try.prog ⟨cal, S21_nx⟩ 13 S21_ann [] (Try.f21.body.getD .skip) (bodyQ Try.prog #[.tmp 4] R) (argE [(.slice l_a l_l l_c), (.int .i64 at_)]) w = S21 l_a l_l l_c at_ w R := by kernel_rfl
/-- A call of 'carfax/net.has[[]byte]', by its condition. -/
theorem S21_calls {l_a : Option Addr} {l_l : Nat} {l_c : Nat} {at_ : Int} {w : World} {R : Value → World → Prop} (hS : S21 l_a l_l l_c at_ w R) : Ret Try.prog 21 [(.slice l_a l_l l_c), (.int .i64 at_)] w R :=
  R_calls (C := ⟨cal, S21_nx⟩) cal_ok follows Try.func21 (c := Try.f21.body.getD .skip) (res := #[.tmp 4]) (n := 13) (by kernel_rfl) (by kernel_rfl) (by kernel_rfl) (by kernel_rfl) ((S21_eq l_a l_l l_c at_ w R).mpr hS)

end Go.Proofs
