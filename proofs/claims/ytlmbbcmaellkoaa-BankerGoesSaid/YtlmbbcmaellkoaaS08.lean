import Derived.Test.YtlmbbcmaellkoaaProg
import Derived.Test.YtlmbbcmaellkoaaEng8
set_option linter.unusedVariables false
set_option maxRecDepth 100000
namespace Go.Proofs
open Go Go.Eng
def cal (f : FuncId) : Bool := Nat.ble 3 f && Nat.blt f 35
theorem cal_all : (List.range 35).all (fun f => !cal f || callable Try.prog f) = true := by kernel_rfl
theorem cal_ok (f : FuncId) (h : cal f = true) : callable Try.prog f = true := by
  have hb := h
  simp only [cal, Bool.and_eq_true, Nat.blt_eq] at hb
  have := List.all_eq_true.1 cal_all f (List.mem_range.2 hb.2)
  rw [h] at this
  simpa using this
theorem follows : Try.prog.follows .mixedOrders = true := by kernel_rfl

def S3_ann (p : List Nat) : Option LA := match p with
  | [0, 1, 0, 1, 1, 1, 1] => some ⟨[3, 4, 17], [(18, .one (.int .i64))]⟩
  | _ => none

def S3_nx (t : Nat) : Option (TypeId × TypeId) := none

def S3_k4 (head : Bool) (x_a : Option Addr) (x_l : Nat) (x_c : Nat) (i : Int) (t17 : Int) (t18 : Int) (w : World) (R : Value → World → Prop) (B1 : (Int) × Unit → World → Prop) : Prop :=
  Calls Try.prog 13 ⟨[(.slice x_a x_l x_c), (.int .i64 i)]⟩ w fun e w_ =>
    ∃ (t77_a : Option Addr) (t77_l : Nat) (t77_c : Nat),
    e = .returned (.slice t77_a t77_l t77_c) ∧
    Calls Try.prog 12 ⟨[(.slice t77_a t77_l t77_c)]⟩ w_ fun e w__1 =>
      ∃ (t78 : Bool),
      e = .returned (.bool t78) ∧
      cond (!t78) (
        R (.bool false) w__1
      ) (
        B1 ((IntKind.i64.wrap (t18 + 1)), ()) w__1
      )

def S3_k3 (head : Bool) (x_a : Option Addr) (x_l : Nat) (x_c : Nat) (i : Int) (y_a : Option Addr) (y_l : Nat) (y_c : Nat) (t17 : Int) (t18 : Int) (w : World) (R : Value → World → Prop) (B1 : (Int) × Unit → World → Prop) : Prop :=
  ∃ (t51 : Addr),
  x_a = some t51 ∧
  0 ≤ (i : Int) ∧
  (i : Int) < ((x_l : Nat) : Int) ∧
  ∃ (t52_0_a : Option Addr) (t52_0_l : Nat) (t52_0_c : Nat),
  w.cell? (t51.add (Int.toNat i * 2)) = some (.slice t52_0_a t52_0_l t52_0_c) ∧
  ∃ (t52_1_a : Option Addr) (t52_1_l : Nat) (t52_1_c : Nat),
  w.cell? ((t51.add (Int.toNat i * 2)).add 1) = some (.slice t52_1_a t52_1_l t52_1_c) ∧
  ∃ (t53 : Addr),
  y_a = some t53 ∧
  0 ≤ (i : Int) ∧
  (i : Int) < ((y_l : Nat) : Int) ∧
  (∃ u, w.cell? (t53.add (Int.toNat i * 2)) = some u) ∧
  w.frozen? (t53.add (Int.toNat i * 2)) = false ∧
  (∃ u, (w.setCell (t53.add (Int.toNat i * 2)) (.slice t52_0_a t52_0_l t52_0_c)).cell? ((t53.add (Int.toNat i * 2)).add 1) = some u) ∧
  (w.setCell (t53.add (Int.toNat i * 2)) (.slice t52_0_a t52_0_l t52_0_c)).frozen? ((t53.add (Int.toNat i * 2)).add 1) = false ∧
  ∃ (t56 : Addr),
  x_a = some t56 ∧
  0 ≤ (i : Int) ∧
  (i : Int) < ((x_l : Nat) : Int) ∧
  ∃ (t58_a : Option Addr) (t58_l : Nat) (t58_c : Nat),
  ((w.setCell (t53.add (Int.toNat i * 2)) (.slice t52_0_a t52_0_l t52_0_c)).setCell ((t53.add (Int.toNat i * 2)).add 1) (.slice t52_1_a t52_1_l t52_1_c)).cell? ((t56.add (Int.toNat i * 2)).add 1) = some (.slice t58_a t58_l t58_c) ∧
  cond (decide ((0 : Int) < ((t58_l : Nat) : Int))) (
    ∃ (t66 : Addr),
    x_a = some t66 ∧
    0 ≤ (i : Int) ∧
    (i : Int) < ((x_l : Nat) : Int) ∧
    ∃ (t68_a : Option Addr) (t68_l : Nat) (t68_c : Nat),
    ((w.setCell (t53.add (Int.toNat i * 2)) (.slice t52_0_a t52_0_l t52_0_c)).setCell ((t53.add (Int.toNat i * 2)).add 1) (.slice t52_1_a t52_1_l t52_1_c)).cell? ((t66.add (Int.toNat i * 2)).add 1) = some (.slice t68_a t68_l t68_c) ∧
    0 ≤ (1 : Int) ∧
    (1 : Int) ≤ ((t68_l : Nat) : Int) ∧
    ∃ (t70 : Addr),
    y_a = some t70 ∧
    0 ≤ (i : Int) ∧
    (i : Int) < ((y_l : Nat) : Int) ∧
    (∃ u, ((w.setCell (t53.add (Int.toNat i * 2)) (.slice t52_0_a t52_0_l t52_0_c)).setCell ((t53.add (Int.toNat i * 2)).add 1) (.slice t52_1_a t52_1_l t52_1_c)).cell? ((t70.add (Int.toNat i * 2)).add 1) = some u) ∧
    ((w.setCell (t53.add (Int.toNat i * 2)) (.slice t52_0_a t52_0_l t52_0_c)).setCell ((t53.add (Int.toNat i * 2)).add 1) (.slice t52_1_a t52_1_l t52_1_c)).frozen? ((t70.add (Int.toNat i * 2)).add 1) = false ∧
    Calls Try.prog 12 ⟨[(.slice y_a y_l y_c)]⟩ (((w.setCell (t53.add (Int.toNat i * 2)) (.slice t52_0_a t52_0_l t52_0_c)).setCell ((t53.add (Int.toNat i * 2)).add 1) (.slice t52_1_a t52_1_l t52_1_c)).setCell ((t70.add (Int.toNat i * 2)).add 1) (.slice (slAddr t68_a t68_c (Int.toNat 1) 1) (t68_l - (Int.toNat 1)) (t68_c - (Int.toNat 1)))) fun e w_ =>
      ∃ (t73 : Bool),
      e = .returned (.bool t73) ∧
      cond (!t73) (
        R (.bool false) w_
      ) (
        S3_k4 head x_a x_l x_c i t17 t18 w_ R B1
      )
  ) (
    S3_k4 head x_a x_l x_c i t17 t18 ((w.setCell (t53.add (Int.toNat i * 2)) (.slice t52_0_a t52_0_l t52_0_c)).setCell ((t53.add (Int.toNat i * 2)).add 1) (.slice t52_1_a t52_1_l t52_1_c)) R B1
  )

def S3_k2 (head : Bool) (x_a : Option Addr) (x_l : Nat) (x_c : Nat) (t17 : Int) (t18 : Int) (w : World) (R : Value → World → Prop) (B1 : (Int) × Unit → World → Prop) : Prop :=
  ∃ (t23_a : Option Addr) (t23_l : Nat) (t23_c : Nat) (w_ : World),
  (Builtin.append_ #[22, 22] 22 ⟨[(.slice (some ⟨w.heap.size, 0, none⟩) 0 0), (.slice x_a x_l x_c)]⟩).run Try.prog (w.alloc (.cells ⟨[]⟩ 28)) = .ok (.slice t23_a t23_l t23_c) w_ ∧
  ∃ (t26 : Addr),
  x_a = some t26 ∧
  0 ≤ (t18 : Int) ∧
  (t18 : Int) < ((x_l : Nat) : Int) ∧
  ∃ (t28_a : Option Addr) (t28_l : Nat) (t28_c : Nat),
  w_.cell? (t26.add (Int.toNat t18 * 2)) = some (.slice t28_a t28_l t28_c) ∧
  cond (decide ((0 : Int) < ((t28_l : Nat) : Int))) (
    ∃ (t36 : Addr),
    x_a = some t36 ∧
    0 ≤ (t18 : Int) ∧
    (t18 : Int) < ((x_l : Nat) : Int) ∧
    ∃ (t38_a : Option Addr) (t38_l : Nat) (t38_c : Nat),
    w_.cell? (t36.add (Int.toNat t18 * 2)) = some (.slice t38_a t38_l t38_c) ∧
    0 ≤ ((IntKind.i64.wrap (((t28_l : Nat) : Int) - 1)) : Int) ∧
    ((IntKind.i64.wrap (((t28_l : Nat) : Int) - 1)) : Int) ≤ ((t38_c : Nat) : Int) ∧
    ∃ (t42 : Addr),
    t23_a = some t42 ∧
    0 ≤ (t18 : Int) ∧
    (t18 : Int) < ((t23_l : Nat) : Int) ∧
    (∃ u, w_.cell? (t42.add (Int.toNat t18 * 2)) = some u) ∧
    w_.frozen? (t42.add (Int.toNat t18 * 2)) = false ∧
    Calls Try.prog 12 ⟨[(.slice t23_a t23_l t23_c)]⟩ (w_.setCell (t42.add (Int.toNat t18 * 2)) (.slice (slAddr t38_a t38_c 0 1) ((Int.toNat (IntKind.i64.wrap (((t28_l : Nat) : Int) - 1))) - 0) (t38_c - 0))) fun e w__1 =>
      ∃ (t45 : Bool),
      e = .returned (.bool t45) ∧
      cond (!t45) (
        R (.bool false) w__1
      ) (
        S3_k3 head x_a x_l x_c t18 t23_a t23_l t23_c t17 t18 w__1 R B1
      )
  ) (
    S3_k3 head x_a x_l x_c t18 t23_a t23_l t23_c t17 t18 w_ R B1
  )

def S3_L1 (head : Bool) (x_a : Option Addr) (x_l : Nat) (x_c : Nat) (t17 : Int) (t18 : Int) (w : World) (R : Value → World → Prop) (B1 : (Int) × Unit → World → Prop) : Prop :=
  cond (decide ((t18 : Int) < t17)) (
    S3_k2 head x_a x_l x_c t17 t18 w R B1
  ) (
    R (.bool head) w
  )

def S3_k0 (head : Bool) (x_a : Option Addr) (x_l : Nat) (x_c : Nat) (w : World) (R : Value → World → Prop) : Prop :=
  ∃ (I : (Int) × Unit → World → Prop) (μ : (Int) × Unit → World → Nat),
  I (0, ()) w ∧
  ∀ (J : Env) (s : (Int) × Unit) (w' : World), I s w' →
    S3_L1 head x_a x_l x_c ((x_l : Nat) : Int) s.1 w' R (fun s' w'' => I s' w'' ∧ μ s' w'' < μ s w')

def S3 (l_a : Option Addr) (l_l : Nat) (l_c : Nat) (w : World) (R : Value → World → Prop) : Prop :=
  Calls Try.prog 10 ⟨[]⟩ w fun e w_ =>
    ∃ (t9 : Bool),
    e = .returned (.bool t9) ∧
    Calls Try.prog 11 ⟨[(.slice l_a l_l l_c)]⟩ w_ fun e w__1 =>
      ∃ (t11_a : Option Addr) (t11_l : Nat) (t11_c : Nat),
      e = .returned (.slice t11_a t11_l t11_c) ∧
      Calls Try.prog 12 ⟨[(.slice t11_a t11_l t11_c)]⟩ w__1 fun e w__2 =>
        ∃ (t13 : Bool),
        e = .returned (.bool t13) ∧
        cond (!t13) (
          R (.bool t9) w__2
        ) (
          S3_k0 t9 t11_a t11_l t11_c w__2 R
        )

theorem S3_eq (l_a : Option Addr) (l_l : Nat) (l_c : Nat) (w : World) (R : Value → World → Prop) : Eng.R Try.prog ⟨cal, S3_nx⟩ 82 S3_ann [] (Try.f3.body.getD .skip) (bodyQ Try.prog #[.tmp 2] R) (argE [(.slice l_a l_l l_c)]) w = S3 l_a l_l l_c w R := by kernel_rfl
/-- A call of 'carfax/carfaxlaw08.BankerLess', by its condition. -/
theorem S3_calls {l_a : Option Addr} {l_l : Nat} {l_c : Nat} {w : World} {R : Value → World → Prop} (hS : S3 l_a l_l l_c w R) : Ret Try.prog 3 [(.slice l_a l_l l_c)] w R :=
  R_calls (C := ⟨cal, S3_nx⟩) cal_ok follows Try.func3 (c := Try.f3.body.getD .skip) (res := #[.tmp 2]) (n := 82) (by kernel_rfl) (by kernel_rfl) (by kernel_rfl) (by kernel_rfl) ((S3_eq l_a l_l l_c w R).mpr hS)

def S4_ann (p : List Nat) : Option LA :=
  none

def S4_nx (t : Nat) : Option (TypeId × TypeId) := none

def S4 (l_a : Option Addr) (l_l : Nat) (l_c : Nat) (w : World) (R : Value → World → Prop) : Prop :=
  Calls Try.prog 11 ⟨[(.slice l_a l_l l_c)]⟩ w fun e w_ =>
    ∃ (t9_a : Option Addr) (t9_l : Nat) (t9_c : Nat),
    e = .returned (.slice t9_a t9_l t9_c) ∧
    Calls Try.prog 14 ⟨[(.slice t9_a t9_l t9_c)]⟩ w_ fun e w__1 =>
      ∃ (t12_0_a : Option Addr) (t12_0_l : Nat) (t12_0_c : Nat) (t12_1 : Bool),
      e = .returned (.tuple ⟨[(.slice t12_0_a t12_0_l t12_0_c), (.bool t12_1)]⟩) ∧
      Calls Try.prog 15 ⟨[(.slice t9_a t9_l t9_c)]⟩ w__1 fun e w__2 =>
        ∃ (t17_0_a : Option Addr) (t17_0_l : Nat) (t17_0_c : Nat) (t17_1 : Bool),
        e = .returned (.tuple ⟨[(.slice t17_0_a t17_0_l t17_0_c), (.bool t17_1)]⟩) ∧
        Calls Try.prog 10 ⟨[]⟩ w__2 fun e w__3 =>
          ∃ (t20 : Bool),
          e = .returned (.bool t20) ∧
          cond t20 (
            Calls Try.prog 16 ⟨[(.slice t9_a t9_l t9_c)]⟩ w__3 fun e w__4 =>
              ∃ (t23 : Bool),
              e = .returned (.bool t23) ∧
              Calls Try.prog 17 ⟨[(.slice t9_a t9_l t9_c)]⟩ w__4 fun e w__5 =>
                ∃ (t25 : Bool),
                e = .returned (.bool t25) ∧
                cond (t23 == t25) (
                  Calls Try.prog 18 ⟨[(.slice t12_0_a t12_0_l t12_0_c), (.slice t17_0_a t17_0_l t17_0_c)]⟩ w__5 fun e w__6 =>
                    ∃ (t31 : Bool),
                    e = .returned (.bool t31) ∧
                    cond t31 (
                      cond (t12_1 == t17_1) (
                        Calls Try.prog 12 ⟨[(.slice t9_a t9_l t9_c)]⟩ w__6 fun e w__7 =>
                          ∃ (t40 : Bool),
                          e = .returned (.bool t40) ∧
                          R (.bool (t40 == t17_1)) w__7
                      ) (
                        R (.bool false) w__6
                      )
                    ) (
                      R (.bool false) w__6
                    )
                ) (
                  R (.bool false) w__5
                )
          ) (
            R (.bool false) w__3
          )

theorem S4_eq (l_a : Option Addr) (l_l : Nat) (l_c : Nat) (w : World) (R : Value → World → Prop) : Eng.R Try.prog ⟨cal, S4_nx⟩ 44 S4_ann [] (Try.f4.body.getD .skip) (bodyQ Try.prog #[.tmp 2] R) (argE [(.slice l_a l_l l_c)]) w = S4 l_a l_l l_c w R := by kernel_rfl
/-- A call of 'carfax/carfaxlaw08.BankerOrders', by its condition. -/
theorem S4_calls {l_a : Option Addr} {l_l : Nat} {l_c : Nat} {w : World} {R : Value → World → Prop} (hS : S4 l_a l_l l_c w R) : Ret Try.prog 4 [(.slice l_a l_l l_c)] w R :=
  R_calls (C := ⟨cal, S4_nx⟩) cal_ok follows Try.func4 (c := Try.f4.body.getD .skip) (res := #[.tmp 2]) (n := 44) (by kernel_rfl) (by kernel_rfl) (by kernel_rfl) (by kernel_rfl) ((S4_eq l_a l_l l_c w R).mpr hS)

def S5_ann (p : List Nat) : Option LA := match p with
  | [0, 1, 0, 1, 1, 1, 1, 1, 1] => some ⟨[3, 4, 5, 7, 39, 40], [(41, .one (.int .i64))]⟩
  | [0, 1, 1, 1, 1, 0, 0, 1, 1, 0, 0, 1, 0, 1, 1, 1, 1, 1, 1] => some ⟨[3, 4, 5, 7, 9, 39, 40, 41, 64, 65], [(66, .one (.int .i64))]⟩
  | _ => none

def S5_nx (t : Nat) : Option (TypeId × TypeId) := none

def S5_k7 (head : Bool) (x_a : Option Addr) (x_l : Nat) (x_c : Nat) (o_a : Option Addr) (o_l : Nat) (o_c : Nat) (had : Option Nat) (a : Int) (t39_a : Option Addr) (t39_l : Nat) (t39_c : Nat) (t40 : Int) (t41 : Int) (t64_a : Option Addr) (t64_l : Nat) (t64_c : Nat) (t65 : Int) (t66 : Int) (t90 : Bool) (w : World) (R : Value → World → Prop) (B1 : (Int) × Unit → World → Prop) (B2 : (Int) × Unit → World → Prop) : Prop :=
  cond t90 (
    R (.bool false) w
  ) (
    B2 ((IntKind.i64.wrap (t66 + 1)), ()) w
  )

def S5_k6 (head : Bool) (x_a : Option Addr) (x_l : Nat) (x_c : Nat) (o_a : Option Addr) (o_l : Nat) (o_c : Nat) (had : Option Nat) (a : Int) (t39_a : Option Addr) (t39_l : Nat) (t39_c : Nat) (t40 : Int) (t41 : Int) (t64_a : Option Addr) (t64_l : Nat) (t64_c : Nat) (t65 : Int) (t66 : Int) (w : World) (R : Value → World → Prop) (B1 : (Int) × Unit → World → Prop) (B2 : (Int) × Unit → World → Prop) : Prop :=
  ∃ (t68 : Addr),
  t64_a = some t68 ∧
  0 ≤ (t66 : Int) ∧
  (t66 : Int) < ((t64_l : Nat) : Int) ∧
  ∃ (t69 : Int),
  w.cell? (t68.add (Int.toNat t66 * 1)) = some (.int .i64 t69) ∧
  cond (decide ((t69 : Int) < 0)) (
    S5_k7 head x_a x_l x_c o_a o_l o_c had a t39_a t39_l t39_c t40 t41 t64_a t64_l t64_c t65 t66 true w.drew R B1 B2
  ) (
    cond (decide ((((x_l : Nat) : Int) : Int) ≤ t69)) (
      S5_k7 head x_a x_l x_c o_a o_l o_c had a t39_a t39_l t39_c t40 t41 t64_a t64_l t64_c t65 t66 true w.drew R B1 B2
    ) (
      ∃ (t81 : Addr),
      x_a = some t81 ∧
      0 ≤ (a : Int) ∧
      (a : Int) < ((x_l : Nat) : Int) ∧
      ∃ (t86 : Addr),
      x_a = some t86 ∧
      0 ≤ (t69 : Int) ∧
      (t69 : Int) < ((x_l : Nat) : Int) ∧
      ∃ (t83_a : Option Addr) (t83_l : Nat) (t83_c : Nat),
      w.drew.cell? ((t81.add (Int.toNat a * 2)).add 1) = some (.slice t83_a t83_l t83_c) ∧
      ∃ (t88_a : Option Addr) (t88_l : Nat) (t88_c : Nat),
      w.drew.cell? (t86.add (Int.toNat t69 * 2)) = some (.slice t88_a t88_l t88_c) ∧
      Calls Try.prog 19 ⟨[(.slice t83_a t83_l t83_c), (.slice t88_a t88_l t88_c)]⟩ w.drew fun e w_ =>
        ∃ (t89 : Bool),
        e = .returned (.bool t89) ∧
        S5_k7 head x_a x_l x_c o_a o_l o_c had a t39_a t39_l t39_c t40 t41 t64_a t64_l t64_c t65 t66 t89 w_ R B1 B2
    )
  )

def S5_L5 (head : Bool) (x_a : Option Addr) (x_l : Nat) (x_c : Nat) (o_a : Option Addr) (o_l : Nat) (o_c : Nat) (had : Option Nat) (a : Int) (t39_a : Option Addr) (t39_l : Nat) (t39_c : Nat) (t40 : Int) (t41 : Int) (t64_a : Option Addr) (t64_l : Nat) (t64_c : Nat) (t65 : Int) (t66 : Int) (w : World) (R : Value → World → Prop) (B1 : (Int) × Unit → World → Prop) (B2 : (Int) × Unit → World → Prop) : Prop :=
  cond (decide ((t66 : Int) < t65)) (
    S5_k6 head x_a x_l x_c o_a o_l o_c had a t39_a t39_l t39_c t40 t41 t64_a t64_l t64_c t65 t66 w R B1 B2
  ) (
    B1 ((IntKind.i64.wrap (t41 + 1)), ()) w
  )

def S5_k4 (head : Bool) (x_a : Option Addr) (x_l : Nat) (x_c : Nat) (o_a : Option Addr) (o_l : Nat) (o_c : Nat) (had : Option Nat) (i : Int) (a : Int) (t39_a : Option Addr) (t39_l : Nat) (t39_c : Nat) (t40 : Int) (t41 : Int) (w : World) (R : Value → World → Prop) (B1 : (Int) × Unit → World → Prop) : Prop :=
  ∃ (w_ : World),
  (Instr.mapUpdate 33 (.map had) (.int .i64 a) (.bool true)).run Try.prog w = .ok () w_ ∧
  0 ≤ ((IntKind.i64.wrap (i + 1)) : Int) ∧
  ((IntKind.i64.wrap (i + 1)) : Int) ≤ ((o_l : Nat) : Int) ∧
  ∃ (I : (Int) × Unit → World → Prop) (μ : (Int) × Unit → World → Nat),
  I (0, ()) w_ ∧
  ∀ (J : Env) (s : (Int) × Unit) (w' : World), I s w' →
    S5_L5 head x_a x_l x_c o_a o_l o_c had a t39_a t39_l t39_c t40 t41 (slAddr o_a o_c (Int.toNat (IntKind.i64.wrap (i + 1))) 1) (o_l - (Int.toNat (IntKind.i64.wrap (i + 1)))) (o_c - (Int.toNat (IntKind.i64.wrap (i + 1)))) (((o_l - (Int.toNat (IntKind.i64.wrap (i + 1)))) : Nat) : Int) s.1 w' R B1 (fun s' w'' => I s' w'' ∧ μ s' w'' < μ s w')

def S5_k3 (head : Bool) (x_a : Option Addr) (x_l : Nat) (x_c : Nat) (o_a : Option Addr) (o_l : Nat) (o_c : Nat) (had : Option Nat) (i : Int) (a : Int) (t39_a : Option Addr) (t39_l : Nat) (t39_c : Nat) (t40 : Int) (t41 : Int) (t58 : Bool) (w : World) (R : Value → World → Prop) (B1 : (Int) × Unit → World → Prop) : Prop :=
  cond t58 (
    R (.bool false) w
  ) (
    S5_k4 head x_a x_l x_c o_a o_l o_c had i a t39_a t39_l t39_c t40 t41 w R B1
  )

def S5_k2 (head : Bool) (x_a : Option Addr) (x_l : Nat) (x_c : Nat) (o_a : Option Addr) (o_l : Nat) (o_c : Nat) (had : Option Nat) (t39_a : Option Addr) (t39_l : Nat) (t39_c : Nat) (t40 : Int) (t41 : Int) (w : World) (R : Value → World → Prop) (B1 : (Int) × Unit → World → Prop) : Prop :=
  ∃ (t44 : Addr),
  t39_a = some t44 ∧
  0 ≤ (t41 : Int) ∧
  (t41 : Int) < ((t39_l : Nat) : Int) ∧
  ∃ (t45 : Int),
  w.cell? (t44.add (Int.toNat t41 * 1)) = some (.int .i64 t45) ∧
  cond (decide ((t45 : Int) < 0)) (
    S5_k3 head x_a x_l x_c o_a o_l o_c had t41 t45 t39_a t39_l t39_c t40 t41 true w R B1
  ) (
    cond (decide ((((x_l : Nat) : Int) : Int) ≤ t45)) (
      S5_k3 head x_a x_l x_c o_a o_l o_c had t41 t45 t39_a t39_l t39_c t40 t41 true w R B1
    ) (
      ∃ (t57 : Bool) (w_ : World),
      (Instr.lookup 33 (.map had) (.int .i64 t45) false).run Try.prog w = .ok (.bool t57) w_ ∧
      S5_k3 head x_a x_l x_c o_a o_l o_c had t41 t45 t39_a t39_l t39_c t40 t41 t57 w_ R B1
    )
  )

def S5_k8 (head : Bool) (x_a : Option Addr) (x_l : Nat) (x_c : Nat) (o_a : Option Addr) (o_l : Nat) (o_c : Nat) (w : World) (R : Value → World → Prop) : Prop :=
  cond head (
    R (.bool (decide ((((o_l : Nat) : Int) : Int) = ((x_l : Nat) : Int)))) w
  ) (
    R (.bool false) w
  )

def S5_L1 (head : Bool) (x_a : Option Addr) (x_l : Nat) (x_c : Nat) (o_a : Option Addr) (o_l : Nat) (o_c : Nat) (had : Option Nat) (t39_a : Option Addr) (t39_l : Nat) (t39_c : Nat) (t40 : Int) (t41 : Int) (w : World) (R : Value → World → Prop) (B1 : (Int) × Unit → World → Prop) : Prop :=
  cond (decide ((t41 : Int) < t40)) (
    S5_k2 head x_a x_l x_c o_a o_l o_c had t39_a t39_l t39_c t40 t41 w R B1
  ) (
    S5_k8 head x_a x_l x_c o_a o_l o_c w R
  )

def S5_k0 (head : Bool) (x_a : Option Addr) (x_l : Nat) (x_c : Nat) (o_a : Option Addr) (o_l : Nat) (o_c : Nat) (w : World) (R : Value → World → Prop) : Prop :=
  ∃ (I : (Int) × Unit → World → Prop) (μ : (Int) × Unit → World → Nat),
  I (0, ()) (w.alloc (.map #[] 0)) ∧
  ∀ (J : Env) (s : (Int) × Unit) (w' : World), I s w' →
    S5_L1 head x_a x_l x_c o_a o_l o_c (some w.heap.size) o_a o_l o_c ((o_l : Nat) : Int) s.1 w' R (fun s' w'' => I s' w'' ∧ μ s' w'' < μ s w')

def S5 (l_a : Option Addr) (l_l : Nat) (l_c : Nat) (w : World) (R : Value → World → Prop) : Prop :=
  Calls Try.prog 10 ⟨[]⟩ w fun e w_ =>
    ∃ (t12 : Bool),
    e = .returned (.bool t12) ∧
    Calls Try.prog 11 ⟨[(.slice l_a l_l l_c)]⟩ w_ fun e w__1 =>
      ∃ (t14_a : Option Addr) (t14_l : Nat) (t14_c : Nat),
      e = .returned (.slice t14_a t14_l t14_c) ∧
      Calls Try.prog 14 ⟨[(.slice t14_a t14_l t14_c)]⟩ w__1 fun e w__2 =>
        ∃ (t17_0_a : Option Addr) (t17_0_l : Nat) (t17_0_c : Nat) (t17_1 : Bool),
        e = .returned (.tuple ⟨[(.slice t17_0_a t17_0_l t17_0_c), (.bool t17_1)]⟩) ∧
        cond (!t17_1) (
          cond t12 (
            cond (decide ((((t17_0_l : Nat) : Int) : Int) = 0)) (
              cond (decide ((0 : Int) < ((t14_l : Nat) : Int))) (
                R (.bool true) w__2
              ) (
                Calls Try.prog 16 ⟨[(.slice t14_a t14_l t14_c)]⟩ w__2 fun e w__3 =>
                  ∃ (t34 : Bool),
                  e = .returned (.bool t34) ∧
                  R (.bool (!t34)) w__3
              )
            ) (
              R (.bool false) w__2
            )
          ) (
            R (.bool false) w__2
          )
        ) (
          S5_k0 t12 t14_a t14_l t14_c t17_0_a t17_0_l t17_0_c w__2 R
        )

theorem S5_eq (l_a : Option Addr) (l_l : Nat) (l_c : Nat) (w : World) (R : Value → World → Prop) : Eng.R Try.prog ⟨cal, S5_nx⟩ 101 S5_ann [] (Try.f5.body.getD .skip) (bodyQ Try.prog #[.tmp 2] R) (argE [(.slice l_a l_l l_c)]) w = S5 l_a l_l l_c w R := by kernel_rfl
/-- A call of 'carfax/carfaxlaw08.BankerIs', by its condition. -/
theorem S5_calls {l_a : Option Addr} {l_l : Nat} {l_c : Nat} {w : World} {R : Value → World → Prop} (hS : S5 l_a l_l l_c w R) : Ret Try.prog 5 [(.slice l_a l_l l_c)] w R :=
  R_calls (C := ⟨cal, S5_nx⟩) cal_ok follows Try.func5 (c := Try.f5.body.getD .skip) (res := #[.tmp 2]) (n := 101) (by kernel_rfl) (by kernel_rfl) (by kernel_rfl) (by kernel_rfl) ((S5_eq l_a l_l l_c w R).mpr hS)

def S6_ann (p : List Nat) : Option LA := match p with
  | [0, 1, 0, 1, 1, 1, 1] => some ⟨[3, 4, 21], [(22, .one (.int .i64))]⟩
  | [0, 1, 0, 1, 1, 0, 0, 1, 1, 0, 0, 1, 0, 1, 1, 1, 1] => some ⟨[3, 4, 5, 21, 22, 26], [(6, .one .bool), (27, .one (.int .i64))]⟩
  | _ => none

def S6_nx (t : Nat) : Option (TypeId × TypeId) := none

def S6_k4 (head : Bool) (x_a : Option Addr) (x_l : Nat) (x_c : Nat) (i : Int) (free : Bool) (t21 : Int) (t22 : Int) (t26 : Int) (t27 : Int) (w : World) (R : Value → World → Prop) (B1 : (Int) × Unit → World → Prop) (B2 : (Bool) × (Int) × Unit → World → Prop) : Prop :=
  cond free (
    cond (decide ((t27 : Int) = i)) (
      B2 (true, (IntKind.i64.wrap (t27 + 1)), ()) w.drew
    ) (
      ∃ (t38 : Addr),
      x_a = some t38 ∧
      0 ≤ (i : Int) ∧
      (i : Int) < ((x_l : Nat) : Int) ∧
      ∃ (t43 : Addr),
      x_a = some t43 ∧
      0 ≤ (t27 : Int) ∧
      (t27 : Int) < ((x_l : Nat) : Int) ∧
      ∃ (t40_a : Option Addr) (t40_l : Nat) (t40_c : Nat),
      w.drew.cell? ((t38.add (Int.toNat i * 2)).add 1) = some (.slice t40_a t40_l t40_c) ∧
      ∃ (t45_a : Option Addr) (t45_l : Nat) (t45_c : Nat),
      w.drew.cell? (t43.add (Int.toNat t27 * 2)) = some (.slice t45_a t45_l t45_c) ∧
      Calls Try.prog 19 ⟨[(.slice t40_a t40_l t40_c), (.slice t45_a t45_l t45_c)]⟩ w.drew fun e w_ =>
        ∃ (t46 : Bool),
        e = .returned (.bool t46) ∧
        B2 ((!t46), (IntKind.i64.wrap (t27 + 1)), ()) w_
    )
  ) (
    B2 (false, (IntKind.i64.wrap (t27 + 1)), ()) w.drew
  )

def S6_k6 (head : Bool) (x_a : Option Addr) (x_l : Nat) (x_c : Nat) (t21 : Int) (t22 : Int) (t60 : Bool) (w : World) (R : Value → World → Prop) (B1 : (Int) × Unit → World → Prop) : Prop :=
  cond t60 (
    R (.bool false) w
  ) (
    B1 ((IntKind.i64.wrap (t22 + 1)), ()) w
  )

def S6_k5 (head : Bool) (x_a : Option Addr) (x_l : Nat) (x_c : Nat) (i : Int) (free : Bool) (t21 : Int) (t22 : Int) (w : World) (R : Value → World → Prop) (B1 : (Int) × Unit → World → Prop) : Prop :=
  cond free (
    Calls Try.prog 12 ⟨[(.slice x_a x_l x_c)]⟩ w fun e w_ =>
      ∃ (t54 : Bool),
      e = .returned (.bool t54) ∧
      Calls Try.prog 13 ⟨[(.slice x_a x_l x_c), (.int .i64 i)]⟩ w_ fun e w__1 =>
        ∃ (t57_a : Option Addr) (t57_l : Nat) (t57_c : Nat),
        e = .returned (.slice t57_a t57_l t57_c) ∧
        Calls Try.prog 12 ⟨[(.slice t57_a t57_l t57_c)]⟩ w__1 fun e w__2 =>
          ∃ (t58 : Bool),
          e = .returned (.bool t58) ∧
          S6_k6 head x_a x_l x_c t21 t22 (!(t54 == t58)) w__2 R B1
  ) (
    S6_k6 head x_a x_l x_c t21 t22 false w R B1
  )

def S6_L3 (head : Bool) (x_a : Option Addr) (x_l : Nat) (x_c : Nat) (i : Int) (free : Bool) (t21 : Int) (t22 : Int) (t26 : Int) (t27 : Int) (w : World) (R : Value → World → Prop) (B1 : (Int) × Unit → World → Prop) (B2 : (Bool) × (Int) × Unit → World → Prop) : Prop :=
  cond (decide ((t27 : Int) < t26)) (
    S6_k4 head x_a x_l x_c i free t21 t22 t26 t27 w R B1 B2
  ) (
    S6_k5 head x_a x_l x_c i free t21 t22 w R B1
  )

def S6_k2 (head : Bool) (x_a : Option Addr) (x_l : Nat) (x_c : Nat) (t21 : Int) (t22 : Int) (w : World) (R : Value → World → Prop) (B1 : (Int) × Unit → World → Prop) : Prop :=
  ∃ (I : (Bool) × (Int) × Unit → World → Prop) (μ : (Bool) × (Int) × Unit → World → Nat),
  I (true, 0, ()) w ∧
  ∀ (J : Env) (s : (Bool) × (Int) × Unit) (w' : World), I s w' →
    S6_L3 head x_a x_l x_c t22 s.1 t21 t22 ((x_l : Nat) : Int) s.2.1 w' R B1 (fun s' w'' => I s' w'' ∧ μ s' w'' < μ s w')

def S6_L1 (head : Bool) (x_a : Option Addr) (x_l : Nat) (x_c : Nat) (t21 : Int) (t22 : Int) (w : World) (R : Value → World → Prop) (B1 : (Int) × Unit → World → Prop) : Prop :=
  cond (decide ((t22 : Int) < t21)) (
    S6_k2 head x_a x_l x_c t21 t22 w R B1
  ) (
    R (.bool head) w
  )

def S6_k0 (head : Bool) (x_a : Option Addr) (x_l : Nat) (x_c : Nat) (w : World) (R : Value → World → Prop) : Prop :=
  ∃ (I : (Int) × Unit → World → Prop) (μ : (Int) × Unit → World → Nat),
  I (0, ()) w ∧
  ∀ (J : Env) (s : (Int) × Unit) (w' : World), I s w' →
    S6_L1 head x_a x_l x_c ((x_l : Nat) : Int) s.1 w' R (fun s' w'' => I s' w'' ∧ μ s' w'' < μ s w')

def S6 (l_a : Option Addr) (l_l : Nat) (l_c : Nat) (w : World) (R : Value → World → Prop) : Prop :=
  Calls Try.prog 10 ⟨[]⟩ w fun e w_ =>
    ∃ (t8 : Bool),
    e = .returned (.bool t8) ∧
    Calls Try.prog 11 ⟨[(.slice l_a l_l l_c)]⟩ w_ fun e w__1 =>
      ∃ (t10_a : Option Addr) (t10_l : Nat) (t10_c : Nat),
      e = .returned (.slice t10_a t10_l t10_c) ∧
      Calls Try.prog 16 ⟨[(.slice t10_a t10_l t10_c)]⟩ w__1 fun e w__2 =>
        ∃ (t12 : Bool),
        e = .returned (.bool t12) ∧
        cond (!t12) (
          cond t8 (
            Calls Try.prog 12 ⟨[(.slice t10_a t10_l t10_c)]⟩ w__2 fun e w__3 =>
              ∃ (t17 : Bool),
              e = .returned (.bool t17) ∧
              R (.bool (!t17)) w__3
          ) (
            R (.bool false) w__2
          )
        ) (
          S6_k0 t8 t10_a t10_l t10_c w__2 R
        )

theorem S6_eq (l_a : Option Addr) (l_l : Nat) (l_c : Nat) (w : World) (R : Value → World → Prop) : Eng.R Try.prog ⟨cal, S6_nx⟩ 63 S6_ann [] (Try.f6.body.getD .skip) (bodyQ Try.prog #[.tmp 2] R) (argE [(.slice l_a l_l l_c)]) w = S6 l_a l_l l_c w R := by kernel_rfl
/-- A call of 'carfax/carfaxlaw08.BankerFirst', by its condition. -/
theorem S6_calls {l_a : Option Addr} {l_l : Nat} {l_c : Nat} {w : World} {R : Value → World → Prop} (hS : S6 l_a l_l l_c w R) : Ret Try.prog 6 [(.slice l_a l_l l_c)] w R :=
  R_calls (C := ⟨cal, S6_nx⟩) cal_ok follows Try.func6 (c := Try.f6.body.getD .skip) (res := #[.tmp 2]) (n := 63) (by kernel_rfl) (by kernel_rfl) (by kernel_rfl) (by kernel_rfl) ((S6_eq l_a l_l l_c w R).mpr hS)

def S7_ann (p : List Nat) : Option LA := match p with
  | [0, 1, 0, 1, 1, 1, 1, 1, 1, 1] => some ⟨[5, 6, 48], [(49, .one (.int .i64))]⟩
  | _ => none

def S7_nx (t : Nat) : Option (TypeId × TypeId) := none

def S7_k6 (head : Bool) (x_a : Option Addr) (x_l : Nat) (x_c : Nat) (t48 : Int) (t49 : Int) (t64 : Bool) (w : World) (R : Value → World → Prop) (B1 : (Int) × Unit → World → Prop) : Prop :=
  cond t64 (
    R (.bool false) w
  ) (
    B1 ((IntKind.i64.wrap (t49 + 1)), ()) w
  )

def S7_k5 (head : Bool) (x_a : Option Addr) (x_l : Nat) (x_c : Nat) (t48 : Int) (t49 : Int) (w : World) (R : Value → World → Prop) (B1 : (Int) × Unit → World → Prop) : Prop :=
  0 ≤ ((IntKind.i64.wrap (t49 + 1)) : Int) ∧
  ((IntKind.i64.wrap (t49 + 1)) : Int) ≤ ((x_c : Nat) : Int) ∧
  0 ≤ (t49 : Int) ∧
  (t49 : Int) ≤ (((Int.toNat (IntKind.i64.wrap (t49 + 1))) : Nat) : Int) ∧
  0 ≤ ((IntKind.i64.wrap (t49 + 1)) : Int) ∧
  ((IntKind.i64.wrap (t49 + 1)) : Int) ≤ ((x_c : Nat) : Int) ∧
  0 ≤ (t49 : Int) ∧
  (t49 : Int) ≤ (((Int.toNat (IntKind.i64.wrap (t49 + 1))) : Nat) : Int) ∧
  Calls Try.prog 16 ⟨[(.slice (slAddr x_a x_c (Int.toNat t49) 2) ((Int.toNat (IntKind.i64.wrap (t49 + 1))) - (Int.toNat t49)) (x_c - (Int.toNat t49)))]⟩ w.drew fun e w_ =>
    ∃ (t57 : Bool),
    e = .returned (.bool t57) ∧
    Calls Try.prog 12 ⟨[(.slice (slAddr x_a x_c (Int.toNat t49) 2) ((Int.toNat (IntKind.i64.wrap (t49 + 1))) - (Int.toNat t49)) (x_c - (Int.toNat t49)))]⟩ w_ fun e w__1 =>
      ∃ (t63 : Bool),
      e = .returned (.bool t63) ∧
      S7_k6 head x_a x_l x_c t48 t49 (!(t57 == t63)) w__1 R B1

def S7_L4 (head : Bool) (x_a : Option Addr) (x_l : Nat) (x_c : Nat) (t48 : Int) (t49 : Int) (w : World) (R : Value → World → Prop) (B1 : (Int) × Unit → World → Prop) : Prop :=
  cond (decide ((t49 : Int) < t48)) (
    S7_k5 head x_a x_l x_c t48 t49 w R B1
  ) (
    R (.bool head) w
  )

def S7_k3 (head : Bool) (x_a : Option Addr) (x_l : Nat) (x_c : Nat) (w : World) (R : Value → World → Prop) : Prop :=
  ∃ (I : (Int) × Unit → World → Prop) (μ : (Int) × Unit → World → Nat),
  I (0, ()) w ∧
  ∀ (J : Env) (s : (Int) × Unit) (w' : World), I s w' →
    S7_L4 head x_a x_l x_c ((x_l : Nat) : Int) s.1 w' R (fun s' w'' => I s' w'' ∧ μ s' w'' < μ s w')

def S7_k2 (head : Bool) (x_a : Option Addr) (x_l : Nat) (x_c : Nat) (t46 : Bool) (w : World) (R : Value → World → Prop) : Prop :=
  cond t46 (
    R (.bool false) w
  ) (
    S7_k3 head x_a x_l x_c w R
  )

def S7_k1 (head : Bool) (x_a : Option Addr) (x_l : Nat) (x_c : Nat) (y_a : Option Addr) (y_l : Nat) (y_c : Nat) (w : World) (R : Value → World → Prop) : Prop :=
  Calls Try.prog 12 ⟨[(.slice x_a x_l x_c)]⟩ w fun e w_ =>
    ∃ (t36 : Bool),
    e = .returned (.bool t36) ∧
    Calls Try.prog 12 ⟨[(.slice y_a y_l y_c)]⟩ w_ fun e w__1 =>
      ∃ (t38 : Bool),
      e = .returned (.bool t38) ∧
      cond (!(t36 == t38)) (
        S7_k2 head x_a x_l x_c true w__1 R
      ) (
        Calls Try.prog 16 ⟨[(.slice x_a x_l x_c)]⟩ w__1 fun e w__2 =>
          ∃ (t42 : Bool),
          e = .returned (.bool t42) ∧
          Calls Try.prog 16 ⟨[(.slice y_a y_l y_c)]⟩ w__2 fun e w__3 =>
            ∃ (t44 : Bool),
            e = .returned (.bool t44) ∧
            S7_k2 head x_a x_l x_c (!(t42 == t44)) w__3 R
      )

def S7_k0 (n_ : Int) (head : Bool) (x_a : Option Addr) (x_l : Nat) (x_c : Nat) (w : World) (R : Value → World → Prop) : Prop :=
  (((x_l : Nat) : Int) : Int) ≠ 0 ∧
  0 ≤ ((Int.tmod (IntKind.i64.wrap n_) ((x_l : Nat) : Int)) : Int) ∧
  ((Int.tmod (IntKind.i64.wrap n_) ((x_l : Nat) : Int)) : Int) ≤ ((x_l : Nat) : Int) ∧
  0 ≤ ((Int.tmod (IntKind.i64.wrap n_) ((x_l : Nat) : Int)) : Int) ∧
  ((Int.tmod (IntKind.i64.wrap n_) ((x_l : Nat) : Int)) : Int) ≤ ((x_c : Nat) : Int) ∧
  ∃ (t30_a : Option Addr) (t30_l : Nat) (t30_c : Nat) (w_ : World),
  (Builtin.append_ #[22, 22] 22 ⟨[(.slice (some ⟨w.drew.heap.size, 0, none⟩) 0 0), (.slice (slAddr x_a x_c (Int.toNat (Int.tmod (IntKind.i64.wrap n_) ((x_l : Nat) : Int))) 2) (x_l - (Int.toNat (Int.tmod (IntKind.i64.wrap n_) ((x_l : Nat) : Int)))) (x_c - (Int.toNat (Int.tmod (IntKind.i64.wrap n_) ((x_l : Nat) : Int)))))]⟩).run Try.prog (w.drew.alloc (.cells ⟨[]⟩ 28)) = .ok (.slice t30_a t30_l t30_c) w_ ∧
  ∃ (t34_a : Option Addr) (t34_l : Nat) (t34_c : Nat) (w__1 : World),
  (Builtin.append_ #[22, 22] 22 ⟨[(.slice t30_a t30_l t30_c), (.slice (slAddr x_a x_c 0 2) ((Int.toNat (Int.tmod (IntKind.i64.wrap n_) ((x_l : Nat) : Int))) - 0) (x_c - 0))]⟩).run Try.prog w_ = .ok (.slice t34_a t34_l t34_c) w__1 ∧
  S7_k1 head x_a x_l x_c t34_a t34_l t34_c w__1 R

def S7 (l_a : Option Addr) (l_l : Nat) (l_c : Nat) (n_ : Int) (w : World) (R : Value → World → Prop) : Prop :=
  Calls Try.prog 10 ⟨[]⟩ w fun e w_ =>
    ∃ (t10 : Bool),
    e = .returned (.bool t10) ∧
    Calls Try.prog 11 ⟨[(.slice l_a l_l l_c)]⟩ w_ fun e w__1 =>
      ∃ (t12_a : Option Addr) (t12_l : Nat) (t12_c : Nat),
      e = .returned (.slice t12_a t12_l t12_c) ∧
      cond (decide ((((t12_l : Nat) : Int) : Int) = 0)) (
        cond t10 (
          Calls Try.prog 12 ⟨[(.slice t12_a t12_l t12_c)]⟩ w__1 fun e w__2 =>
            ∃ (t19 : Bool),
            e = .returned (.bool t19) ∧
            R (.bool t19) w__2
        ) (
          R (.bool false) w__1
        )
      ) (
        S7_k0 n_ t10 t12_a t12_l t12_c w__1 R
      )

theorem S7_eq (l_a : Option Addr) (l_l : Nat) (l_c : Nat) (n_ : Int) (w : World) (R : Value → World → Prop) : Eng.R Try.prog ⟨cal, S7_nx⟩ 67 S7_ann [] (Try.f7.body.getD .skip) (bodyQ Try.prog #[.tmp 4] R) (argE [(.slice l_a l_l l_c), (.int .u8 n_)]) w = S7 l_a l_l l_c n_ w R := by kernel_rfl
/-- A call of 'carfax/carfaxlaw08.BankerTurned', by its condition. -/
theorem S7_calls {l_a : Option Addr} {l_l : Nat} {l_c : Nat} {n_ : Int} {w : World} {R : Value → World → Prop} (hS : S7 l_a l_l l_c n_ w R) : Ret Try.prog 7 [(.slice l_a l_l l_c), (.int .u8 n_)] w R :=
  R_calls (C := ⟨cal, S7_nx⟩) cal_ok follows Try.func7 (c := Try.f7.body.getD .skip) (res := #[.tmp 4]) (n := 67) (by kernel_rfl) (by kernel_rfl) (by kernel_rfl) (by kernel_rfl) ((S7_eq l_a l_l l_c n_ w R).mpr hS)

def S8_ann (p : List Nat) : Option LA :=
  none

def S8_nx (t : Nat) : Option (TypeId × TypeId) := none

def S8 (l_a : Option Addr) (l_l : Nat) (l_c : Nat) (who : Int) (zone : Int) (w : World) (R : Value → World → Prop) : Prop :=
  Calls Try.prog 10 ⟨[]⟩ w fun e w_ =>
    ∃ (t7 : Bool),
    e = .returned (.bool t7) ∧
    cond t7 (
      Calls Try.prog 11 ⟨[(.slice l_a l_l l_c)]⟩ w_ fun e w__1 =>
        ∃ (t10_a : Option Addr) (t10_l : Nat) (t10_c : Nat),
        e = .returned (.slice t10_a t10_l t10_c) ∧
        Calls Try.prog 20 ⟨[(.slice t10_a t10_l t10_c), (.int .i64 who), (.int .i64 zone)]⟩ w__1 fun e w__2 =>
          ∃ (t13 : Bool),
          e = .returned (.bool t13) ∧
          Calls Try.prog 11 ⟨[(.slice l_a l_l l_c)]⟩ w__2 fun e w__3 =>
            ∃ (t15_a : Option Addr) (t15_l : Nat) (t15_c : Nat),
            e = .returned (.slice t15_a t15_l t15_c) ∧
            Calls Try.prog 21 ⟨[(.slice t15_a t15_l t15_c), (.int .i64 who), (.int .i64 zone)]⟩ w__3 fun e w__4 =>
              ∃ (t18 : Bool),
              e = .returned (.bool t18) ∧
              R (.bool (t13 == t18)) w__4
    ) (
      R (.bool false) w_
    )

theorem S8_eq (l_a : Option Addr) (l_l : Nat) (l_c : Nat) (who : Int) (zone : Int) (w : World) (R : Value → World → Prop) : Eng.R Try.prog ⟨cal, S8_nx⟩ 21 S8_ann [] (Try.f8.body.getD .skip) (bodyQ Try.prog #[.tmp 6] R) (argE [(.slice l_a l_l l_c), (.int .i64 who), (.int .i64 zone)]) w = S8 l_a l_l l_c who zone w R := by kernel_rfl
/-- A call of 'carfax/carfaxlaw08.BankerMays', by its condition. -/
theorem S8_calls {l_a : Option Addr} {l_l : Nat} {l_c : Nat} {who : Int} {zone : Int} {w : World} {R : Value → World → Prop} (hS : S8 l_a l_l l_c who zone w R) : Ret Try.prog 8 [(.slice l_a l_l l_c), (.int .i64 who), (.int .i64 zone)] w R :=
  R_calls (C := ⟨cal, S8_nx⟩) cal_ok follows Try.func8 (c := Try.f8.body.getD .skip) (res := #[.tmp 6]) (n := 21) (by kernel_rfl) (by kernel_rfl) (by kernel_rfl) (by kernel_rfl) ((S8_eq l_a l_l l_c who zone w R).mpr hS)

def S9_ann (p : List Nat) : Option LA := match p with
  | [0, 1, 0, 1, 1, 1, 1, 1, 1, 1] => some ⟨[3, 4, 7, 43, 44], [(45, .one (.int .i64))]⟩
  | _ => none

def S9_nx (t : Nat) : Option (TypeId × TypeId) := none

def S9_k7 (head : Bool) (x_a : Option Addr) (x_l : Nat) (x_c : Nat) (who : Int) (z : Int) (t43_a : Option Addr) (t43_l : Nat) (t43_c : Nat) (t44 : Int) (t45 : Int) (w : World) (R : Value → World → Prop) (B1 : (Int) × Unit → World → Prop) : Prop :=
  ∃ (t67 : Addr),
  x_a = some t67 ∧
  0 ≤ (who : Int) ∧
  (who : Int) < ((x_l : Nat) : Int) ∧
  ∃ (t69_a : Option Addr) (t69_l : Nat) (t69_c : Nat),
  (w.alloc (.cells ⟨[]⟩ 3)).cell? (t67.add (Int.toNat who * 2)) = some (.slice t69_a t69_l t69_c) ∧
  ∃ (t70_a : Option Addr) (t70_l : Nat) (t70_c : Nat) (w_ : World),
  (Builtin.append_ #[26, 26] 26 ⟨[(.slice (some ⟨w.heap.size, 0, none⟩) 0 0), (.slice t69_a t69_l t69_c)]⟩).run Try.prog (w.alloc (.cells ⟨[]⟩ 3)) = .ok (.slice t70_a t70_l t70_c) w_ ∧
  ∃ (t73_a : Option Addr) (t73_l : Nat) (t73_c : Nat) (w__1 : World),
  (Builtin.append_ #[26, 26] 26 ⟨[(.slice t70_a t70_l t70_c), (.slice (some ⟨w_.heap.size, 0, none⟩) 1 1)]⟩).run Try.prog (w_.alloc (.cells ⟨[(.int .i64 z)]⟩ 3)) = .ok (.slice t73_a t73_l t73_c) w__1 ∧
  ∃ (t74 : Addr),
  x_a = some t74 ∧
  0 ≤ (who : Int) ∧
  (who : Int) < ((x_l : Nat) : Int) ∧
  (∃ u, w__1.cell? (t74.add (Int.toNat who * 2)) = some u) ∧
  w__1.frozen? (t74.add (Int.toNat who * 2)) = false ∧
  Calls Try.prog 12 ⟨[(.slice x_a x_l x_c)]⟩ (w__1.setCell (t74.add (Int.toNat who * 2)) (.slice t73_a t73_l t73_c)) fun e w__2 =>
    ∃ (t77 : Bool),
    e = .returned (.bool t77) ∧
    cond (!t77) (
      R (.bool false) w__2
    ) (
      B1 ((IntKind.i64.wrap (t45 + 1)), ()) w__2
    )

def S9_k6 (head : Bool) (x_a : Option Addr) (x_l : Nat) (x_c : Nat) (who : Int) (z : Int) (t43_a : Option Addr) (t43_l : Nat) (t43_c : Nat) (t44 : Int) (t45 : Int) (w : World) (R : Value → World → Prop) (B1 : (Int) × Unit → World → Prop) : Prop :=
  Calls Try.prog 20 ⟨[(.slice x_a x_l x_c), (.int .i64 who), (.int .i64 z)]⟩ w fun e w_ =>
    ∃ (t60 : Bool),
    e = .returned (.bool t60) ∧
    cond (!t60) (
      R (.bool false) w_
    ) (
      S9_k7 head x_a x_l x_c who z t43_a t43_l t43_c t44 t45 w_ R B1
    )

def S9_k5 (head : Bool) (x_a : Option Addr) (x_l : Nat) (x_c : Nat) (who : Int) (t43_a : Option Addr) (t43_l : Nat) (t43_c : Nat) (t44 : Int) (t45 : Int) (w : World) (R : Value → World → Prop) (B1 : (Int) × Unit → World → Prop) : Prop :=
  ∃ (t47 : Addr),
  t43_a = some t47 ∧
  0 ≤ (t45 : Int) ∧
  (t45 : Int) < ((t43_l : Nat) : Int) ∧
  ∃ (t48 : Int),
  w.cell? (t47.add (Int.toNat t45 * 1)) = some (.int .i64 t48) ∧
  ∃ (t53 : Addr),
  x_a = some t53 ∧
  0 ≤ (who : Int) ∧
  (who : Int) < ((x_l : Nat) : Int) ∧
  ∃ (t55_a : Option Addr) (t55_l : Nat) (t55_c : Nat),
  (w.alloc (.cells ⟨[(.int .i64 t48)]⟩ 3)).cell? (t53.add (Int.toNat who * 2)) = some (.slice t55_a t55_l t55_c) ∧
  Calls Try.prog 19 ⟨[(.slice (some ⟨w.heap.size, 0, none⟩) 1 1), (.slice t55_a t55_l t55_c)]⟩ (w.alloc (.cells ⟨[(.int .i64 t48)]⟩ 3)) fun e w_ =>
    ∃ (t56 : Bool),
    e = .returned (.bool t56) ∧
    cond t56 (
      B1 ((IntKind.i64.wrap (t45 + 1)), ()) w_
    ) (
      S9_k6 head x_a x_l x_c who t48 t43_a t43_l t43_c t44 t45 w_ R B1
    )

def S9_k8 (head : Bool) (x_a : Option Addr) (x_l : Nat) (x_c : Nat) (who : Int) (w : World) (R : Value → World → Prop) : Prop :=
  cond head (
    Calls Try.prog 13 ⟨[(.slice x_a x_l x_c), (.int .i64 who)]⟩ w fun e w_ =>
      ∃ (t84_a : Option Addr) (t84_l : Nat) (t84_c : Nat),
      e = .returned (.slice t84_a t84_l t84_c) ∧
      Calls Try.prog 12 ⟨[(.slice t84_a t84_l t84_c)]⟩ w_ fun e w__1 =>
        ∃ (t85 : Bool),
        e = .returned (.bool t85) ∧
        R (.bool t85) w__1
  ) (
    R (.bool false) w
  )

def S9_L4 (head : Bool) (x_a : Option Addr) (x_l : Nat) (x_c : Nat) (who : Int) (t43_a : Option Addr) (t43_l : Nat) (t43_c : Nat) (t44 : Int) (t45 : Int) (w : World) (R : Value → World → Prop) (B1 : (Int) × Unit → World → Prop) : Prop :=
  cond (decide ((t45 : Int) < t44)) (
    S9_k5 head x_a x_l x_c who t43_a t43_l t43_c t44 t45 w R B1
  ) (
    S9_k8 head x_a x_l x_c who w R
  )

def S9_k3 (head : Bool) (x_a : Option Addr) (x_l : Nat) (x_c : Nat) (who : Int) (w : World) (R : Value → World → Prop) : Prop :=
  ∃ (t41 : Addr),
  x_a = some t41 ∧
  0 ≤ (who : Int) ∧
  (who : Int) < ((x_l : Nat) : Int) ∧
  ∃ (t43_a : Option Addr) (t43_l : Nat) (t43_c : Nat),
  w.cell? ((t41.add (Int.toNat who * 2)).add 1) = some (.slice t43_a t43_l t43_c) ∧
  ∃ (I : (Int) × Unit → World → Prop) (μ : (Int) × Unit → World → Nat),
  I (0, ()) w ∧
  ∀ (J : Env) (s : (Int) × Unit) (w' : World), I s w' →
    S9_L4 head x_a x_l x_c who t43_a t43_l t43_c ((t43_l : Nat) : Int) s.1 w' R (fun s' w'' => I s' w'' ∧ μ s' w'' < μ s w')

def S9_k2 (head : Bool) (x_a : Option Addr) (x_l : Nat) (x_c : Nat) (who : Int) (t38 : Bool) (w : World) (R : Value → World → Prop) : Prop :=
  cond t38 (
    R (.bool false) w
  ) (
    S9_k3 head x_a x_l x_c who w R
  )

def S9_k1 (head : Bool) (x_a : Option Addr) (x_l : Nat) (x_c : Nat) (o_a : Option Addr) (o_l : Nat) (o_c : Nat) (w : World) (R : Value → World → Prop) : Prop :=
  ∃ (t29 : Addr),
  o_a = some t29 ∧
  0 ≤ (0 : Int) ∧
  (0 : Int) < ((o_l : Nat) : Int) ∧
  ∃ (t30 : Int),
  w.cell? (t29.add (Int.toNat 0 * 1)) = some (.int .i64 t30) ∧
  cond (decide ((t30 : Int) < 0)) (
    S9_k2 head x_a x_l x_c t30 true w R
  ) (
    S9_k2 head x_a x_l x_c t30 (decide ((((x_l : Nat) : Int) : Int) ≤ t30)) w R
  )

def S9_k0 (head : Bool) (x_a : Option Addr) (x_l : Nat) (x_c : Nat) (o_a : Option Addr) (o_l : Nat) (o_c : Nat) (t26 : Bool) (w : World) (R : Value → World → Prop) : Prop :=
  cond t26 (
    R (.bool head) w
  ) (
    S9_k1 head x_a x_l x_c o_a o_l o_c w R
  )

def S9 (l_a : Option Addr) (l_l : Nat) (l_c : Nat) (w : World) (R : Value → World → Prop) : Prop :=
  Calls Try.prog 10 ⟨[]⟩ w fun e w_ =>
    ∃ (t10 : Bool),
    e = .returned (.bool t10) ∧
    Calls Try.prog 11 ⟨[(.slice l_a l_l l_c)]⟩ (w_.alloc (.cells ⟨[]⟩ 28)) fun e w__1 =>
      ∃ (t13_a : Option Addr) (t13_l : Nat) (t13_c : Nat),
      e = .returned (.slice t13_a t13_l t13_c) ∧
      ∃ (t14_a : Option Addr) (t14_l : Nat) (t14_c : Nat) (w__2 : World),
      (Builtin.append_ #[22, 22] 22 ⟨[(.slice (some ⟨w_.heap.size, 0, none⟩) 0 0), (.slice t13_a t13_l t13_c)]⟩).run Try.prog w__1 = .ok (.slice t14_a t14_l t14_c) w__2 ∧
      Calls Try.prog 14 ⟨[(.slice t14_a t14_l t14_c)]⟩ w__2 fun e w__3 =>
        ∃ (t17_0_a : Option Addr) (t17_0_l : Nat) (t17_0_c : Nat) (t17_1 : Bool),
        e = .returned (.tuple ⟨[(.slice t17_0_a t17_0_l t17_0_c), (.bool t17_1)]⟩) ∧
        cond (!t17_1) (
          S9_k0 t10 t14_a t14_l t14_c t17_0_a t17_0_l t17_0_c true w__3 R
        ) (
          S9_k0 t10 t14_a t14_l t14_c t17_0_a t17_0_l t17_0_c (decide ((((t17_0_l : Nat) : Int) : Int) = 0)) w__3 R
        )

theorem S9_eq (l_a : Option Addr) (l_l : Nat) (l_c : Nat) (w : World) (R : Value → World → Prop) : Eng.R Try.prog ⟨cal, S9_nx⟩ 87 S9_ann [] (Try.f9.body.getD .skip) (bodyQ Try.prog #[.tmp 2] R) (argE [(.slice l_a l_l l_c)]) w = S9 l_a l_l l_c w R := by kernel_rfl
/-- A call of 'carfax/carfaxlaw08.BankerGoes', by its condition. -/
theorem S9_calls {l_a : Option Addr} {l_l : Nat} {l_c : Nat} {w : World} {R : Value → World → Prop} (hS : S9 l_a l_l l_c w R) : Ret Try.prog 9 [(.slice l_a l_l l_c)] w R :=
  R_calls (C := ⟨cal, S9_nx⟩) cal_ok follows Try.func9 (c := Try.f9.body.getD .skip) (res := #[.tmp 2]) (n := 87) (by kernel_rfl) (by kernel_rfl) (by kernel_rfl) (by kernel_rfl) ((S9_eq l_a l_l l_c w R).mpr hS)

def S10_ann (p : List Nat) : Option LA :=
  none

def S10_nx (t : Nat) : Option (TypeId × TypeId) := none

def S10 (w : World) (R : Value → World → Prop) : Prop :=
  Calls Try.prog 14 ⟨[(.slice (some ⟨(((((((((w.alloc (.cells ⟨[(.int .i64 1)]⟩ 3)).alloc (.cells ⟨[(.int .i64 2)]⟩ 3)).alloc (.cells ⟨[(.int .i64 2)]⟩ 3)).alloc (.cells ⟨[(.int .i64 1)]⟩ 3)).alloc (.cells ⟨[(.slice (some ⟨w.heap.size, 0, none⟩) 1 1), (.slice (some ⟨(w.alloc (.cells ⟨[(.int .i64 1)]⟩ 3)).heap.size, 0, none⟩) 1 1), (.slice (some ⟨((w.alloc (.cells ⟨[(.int .i64 1)]⟩ 3)).alloc (.cells ⟨[(.int .i64 2)]⟩ 3)).heap.size, 0, none⟩) 1 1), (.slice (some ⟨(((w.alloc (.cells ⟨[(.int .i64 1)]⟩ 3)).alloc (.cells ⟨[(.int .i64 2)]⟩ 3)).alloc (.cells ⟨[(.int .i64 2)]⟩ 3)).heap.size, 0, none⟩) 1 1)]⟩ 28)).alloc (.cells ⟨[(.int .i64 1)]⟩ 3)).alloc (.cells ⟨[(.int .i64 2)]⟩ 3)).alloc (.cells ⟨[(.int .i64 2)]⟩ 3)).alloc (.cells ⟨[(.int .i64 3)]⟩ 3)).heap.size, 0, none⟩) 2 2)]⟩ ((((((((((w.alloc (.cells ⟨[(.int .i64 1)]⟩ 3)).alloc (.cells ⟨[(.int .i64 2)]⟩ 3)).alloc (.cells ⟨[(.int .i64 2)]⟩ 3)).alloc (.cells ⟨[(.int .i64 1)]⟩ 3)).alloc (.cells ⟨[(.slice (some ⟨w.heap.size, 0, none⟩) 1 1), (.slice (some ⟨(w.alloc (.cells ⟨[(.int .i64 1)]⟩ 3)).heap.size, 0, none⟩) 1 1), (.slice (some ⟨((w.alloc (.cells ⟨[(.int .i64 1)]⟩ 3)).alloc (.cells ⟨[(.int .i64 2)]⟩ 3)).heap.size, 0, none⟩) 1 1), (.slice (some ⟨(((w.alloc (.cells ⟨[(.int .i64 1)]⟩ 3)).alloc (.cells ⟨[(.int .i64 2)]⟩ 3)).alloc (.cells ⟨[(.int .i64 2)]⟩ 3)).heap.size, 0, none⟩) 1 1)]⟩ 28)).alloc (.cells ⟨[(.int .i64 1)]⟩ 3)).alloc (.cells ⟨[(.int .i64 2)]⟩ 3)).alloc (.cells ⟨[(.int .i64 2)]⟩ 3)).alloc (.cells ⟨[(.int .i64 3)]⟩ 3)).alloc (.cells ⟨[(.slice (some ⟨(((((w.alloc (.cells ⟨[(.int .i64 1)]⟩ 3)).alloc (.cells ⟨[(.int .i64 2)]⟩ 3)).alloc (.cells ⟨[(.int .i64 2)]⟩ 3)).alloc (.cells ⟨[(.int .i64 1)]⟩ 3)).alloc (.cells ⟨[(.slice (some ⟨w.heap.size, 0, none⟩) 1 1), (.slice (some ⟨(w.alloc (.cells ⟨[(.int .i64 1)]⟩ 3)).heap.size, 0, none⟩) 1 1), (.slice (some ⟨((w.alloc (.cells ⟨[(.int .i64 1)]⟩ 3)).alloc (.cells ⟨[(.int .i64 2)]⟩ 3)).heap.size, 0, none⟩) 1 1), (.slice (some ⟨(((w.alloc (.cells ⟨[(.int .i64 1)]⟩ 3)).alloc (.cells ⟨[(.int .i64 2)]⟩ 3)).alloc (.cells ⟨[(.int .i64 2)]⟩ 3)).heap.size, 0, none⟩) 1 1)]⟩ 28)).heap.size, 0, none⟩) 1 1), (.slice (some ⟨((((((w.alloc (.cells ⟨[(.int .i64 1)]⟩ 3)).alloc (.cells ⟨[(.int .i64 2)]⟩ 3)).alloc (.cells ⟨[(.int .i64 2)]⟩ 3)).alloc (.cells ⟨[(.int .i64 1)]⟩ 3)).alloc (.cells ⟨[(.slice (some ⟨w.heap.size, 0, none⟩) 1 1), (.slice (some ⟨(w.alloc (.cells ⟨[(.int .i64 1)]⟩ 3)).heap.size, 0, none⟩) 1 1), (.slice (some ⟨((w.alloc (.cells ⟨[(.int .i64 1)]⟩ 3)).alloc (.cells ⟨[(.int .i64 2)]⟩ 3)).heap.size, 0, none⟩) 1 1), (.slice (some ⟨(((w.alloc (.cells ⟨[(.int .i64 1)]⟩ 3)).alloc (.cells ⟨[(.int .i64 2)]⟩ 3)).alloc (.cells ⟨[(.int .i64 2)]⟩ 3)).heap.size, 0, none⟩) 1 1)]⟩ 28)).alloc (.cells ⟨[(.int .i64 1)]⟩ 3)).heap.size, 0, none⟩) 1 1), (.slice (some ⟨(((((((w.alloc (.cells ⟨[(.int .i64 1)]⟩ 3)).alloc (.cells ⟨[(.int .i64 2)]⟩ 3)).alloc (.cells ⟨[(.int .i64 2)]⟩ 3)).alloc (.cells ⟨[(.int .i64 1)]⟩ 3)).alloc (.cells ⟨[(.slice (some ⟨w.heap.size, 0, none⟩) 1 1), (.slice (some ⟨(w.alloc (.cells ⟨[(.int .i64 1)]⟩ 3)).heap.size, 0, none⟩) 1 1), (.slice (some ⟨((w.alloc (.cells ⟨[(.int .i64 1)]⟩ 3)).alloc (.cells ⟨[(.int .i64 2)]⟩ 3)).heap.size, 0, none⟩) 1 1), (.slice (some ⟨(((w.alloc (.cells ⟨[(.int .i64 1)]⟩ 3)).alloc (.cells ⟨[(.int .i64 2)]⟩ 3)).alloc (.cells ⟨[(.int .i64 2)]⟩ 3)).heap.size, 0, none⟩) 1 1)]⟩ 28)).alloc (.cells ⟨[(.int .i64 1)]⟩ 3)).alloc (.cells ⟨[(.int .i64 2)]⟩ 3)).heap.size, 0, none⟩) 1 1), (.slice (some ⟨((((((((w.alloc (.cells ⟨[(.int .i64 1)]⟩ 3)).alloc (.cells ⟨[(.int .i64 2)]⟩ 3)).alloc (.cells ⟨[(.int .i64 2)]⟩ 3)).alloc (.cells ⟨[(.int .i64 1)]⟩ 3)).alloc (.cells ⟨[(.slice (some ⟨w.heap.size, 0, none⟩) 1 1), (.slice (some ⟨(w.alloc (.cells ⟨[(.int .i64 1)]⟩ 3)).heap.size, 0, none⟩) 1 1), (.slice (some ⟨((w.alloc (.cells ⟨[(.int .i64 1)]⟩ 3)).alloc (.cells ⟨[(.int .i64 2)]⟩ 3)).heap.size, 0, none⟩) 1 1), (.slice (some ⟨(((w.alloc (.cells ⟨[(.int .i64 1)]⟩ 3)).alloc (.cells ⟨[(.int .i64 2)]⟩ 3)).alloc (.cells ⟨[(.int .i64 2)]⟩ 3)).heap.size, 0, none⟩) 1 1)]⟩ 28)).alloc (.cells ⟨[(.int .i64 1)]⟩ 3)).alloc (.cells ⟨[(.int .i64 2)]⟩ 3)).alloc (.cells ⟨[(.int .i64 2)]⟩ 3)).heap.size, 0, none⟩) 1 1)]⟩ 28)) fun e w_ =>
    ∃ (t21_0_a : Option Addr) (t21_0_l : Nat) (t21_0_c : Nat) (t21_1 : Bool),
    e = .returned (.tuple ⟨[(.slice t21_0_a t21_0_l t21_0_c), (.bool t21_1)]⟩) ∧
    Calls Try.prog 12 ⟨[(.slice (some ⟨((((w.alloc (.cells ⟨[(.int .i64 1)]⟩ 3)).alloc (.cells ⟨[(.int .i64 2)]⟩ 3)).alloc (.cells ⟨[(.int .i64 2)]⟩ 3)).alloc (.cells ⟨[(.int .i64 1)]⟩ 3)).heap.size, 0, none⟩) 2 2)]⟩ w_ fun e w__1 =>
      ∃ (t25 : Bool),
      e = .returned (.bool t25) ∧
      cond (!t25) (
        Calls Try.prog 12 ⟨[(.slice (some ⟨(((((((((w.alloc (.cells ⟨[(.int .i64 1)]⟩ 3)).alloc (.cells ⟨[(.int .i64 2)]⟩ 3)).alloc (.cells ⟨[(.int .i64 2)]⟩ 3)).alloc (.cells ⟨[(.int .i64 1)]⟩ 3)).alloc (.cells ⟨[(.slice (some ⟨w.heap.size, 0, none⟩) 1 1), (.slice (some ⟨(w.alloc (.cells ⟨[(.int .i64 1)]⟩ 3)).heap.size, 0, none⟩) 1 1), (.slice (some ⟨((w.alloc (.cells ⟨[(.int .i64 1)]⟩ 3)).alloc (.cells ⟨[(.int .i64 2)]⟩ 3)).heap.size, 0, none⟩) 1 1), (.slice (some ⟨(((w.alloc (.cells ⟨[(.int .i64 1)]⟩ 3)).alloc (.cells ⟨[(.int .i64 2)]⟩ 3)).alloc (.cells ⟨[(.int .i64 2)]⟩ 3)).heap.size, 0, none⟩) 1 1)]⟩ 28)).alloc (.cells ⟨[(.int .i64 1)]⟩ 3)).alloc (.cells ⟨[(.int .i64 2)]⟩ 3)).alloc (.cells ⟨[(.int .i64 2)]⟩ 3)).alloc (.cells ⟨[(.int .i64 3)]⟩ 3)).heap.size, 0, none⟩) 2 2)]⟩ w__1 fun e w__2 =>
          ∃ (t29 : Bool),
          e = .returned (.bool t29) ∧
          cond t29 (
            cond t21_1 (
              Calls Try.prog 18 ⟨[(.slice t21_0_a t21_0_l t21_0_c), (.slice (some ⟨w__2.heap.size, 0, none⟩) 2 2)]⟩ (w__2.alloc (.cells ⟨[(.int .i64 1), (.int .i64 0)]⟩ 3)) fun e w__3 =>
                ∃ (t37 : Bool),
                e = .returned (.bool t37) ∧
                R (.bool t37) w__3
            ) (
              R (.bool false) w__2
            )
          ) (
            R (.bool false) w__2
          )
      ) (
        R (.bool false) w__1
      )

theorem S10_eq (w : World) (R : Value → World → Prop) : Eng.R Try.prog ⟨cal, S10_nx⟩ 39 S10_ann [] (Try.f10.body.getD .skip) (bodyQ Try.prog #[.tmp 0] R) (argE []) w = S10  w R := by kernel_rfl
/-- A call of 'carfax/carfaxlaw08.shown', by its condition. -/
theorem S10_calls {w : World} {R : Value → World → Prop} (hS : S10  w R) : Ret Try.prog 10 [] w R :=
  R_calls (C := ⟨cal, S10_nx⟩) cal_ok follows Try.func10 (c := Try.f10.body.getD .skip) (res := #[.tmp 0]) (n := 39) (by kernel_rfl) (by kernel_rfl) (by kernel_rfl) (by kernel_rfl) ((S10_eq  w R).mpr hS)

def S11_ann (p : List Nat) : Option LA := match p with
  | [0, 1, 0, 1] => some ⟨[0, 5], [(6, .one (.int .i64))]⟩
  | _ => none

def S11_nx (t : Nat) : Option (TypeId × TypeId) := none

def S11_k2 (l_a : Option Addr) (l_l : Nat) (l_c : Nat) (i : Int) (t5 : Int) (t6 : Int) (t28 : Bool) (w : World) (R : Value → World → Prop) (B1 : (Int) × Unit → World → Prop) : Prop :=
  cond t28 (
    0 ≤ (i : Int) ∧
    (i : Int) ≤ ((l_c : Nat) : Int) ∧
    R (.slice (slAddr l_a l_c 0 2) ((Int.toNat i) - 0) (l_c - 0)) w
  ) (
    B1 ((IntKind.i64.wrap (t6 + 1)), ()) w
  )

def S11_k1 (l_a : Option Addr) (l_l : Nat) (l_c : Nat) (t5 : Int) (t6 : Int) (w : World) (R : Value → World → Prop) (B1 : (Int) × Unit → World → Prop) : Prop :=
  cond (decide ((9 : Int) ≤ t6)) (
    S11_k2 l_a l_l l_c t6 t5 t6 true w R B1
  ) (
    ∃ (t14 : Addr),
    l_a = some t14 ∧
    0 ≤ (t6 : Int) ∧
    (t6 : Int) < ((l_l : Nat) : Int) ∧
    ∃ (t16_a : Option Addr) (t16_l : Nat) (t16_c : Nat),
    w.cell? (t14.add (Int.toNat t6 * 2)) = some (.slice t16_a t16_l t16_c) ∧
    cond (decide ((40 : Int) < ((t16_l : Nat) : Int))) (
      S11_k2 l_a l_l l_c t6 t5 t6 true w R B1
    ) (
      ∃ (t23 : Addr),
      l_a = some t23 ∧
      0 ≤ (t6 : Int) ∧
      (t6 : Int) < ((l_l : Nat) : Int) ∧
      ∃ (t25_a : Option Addr) (t25_l : Nat) (t25_c : Nat),
      w.cell? ((t23.add (Int.toNat t6 * 2)).add 1) = some (.slice t25_a t25_l t25_c) ∧
      S11_k2 l_a l_l l_c t6 t5 t6 (decide ((40 : Int) < ((t25_l : Nat) : Int))) w R B1
    )
  )

def S11_L0 (l_a : Option Addr) (l_l : Nat) (l_c : Nat) (t5 : Int) (t6 : Int) (w : World) (R : Value → World → Prop) (B1 : (Int) × Unit → World → Prop) : Prop :=
  cond (decide ((t6 : Int) < t5)) (
    S11_k1 l_a l_l l_c t5 t6 w R B1
  ) (
    R (.slice l_a l_l l_c) w
  )

def S11 (l_a : Option Addr) (l_l : Nat) (l_c : Nat) (w : World) (R : Value → World → Prop) : Prop :=
  ∃ (I : (Int) × Unit → World → Prop) (μ : (Int) × Unit → World → Nat),
  I (0, ()) w ∧
  ∀ (J : Env) (s : (Int) × Unit) (w' : World), I s w' →
    S11_L0 l_a l_l l_c ((l_l : Nat) : Int) s.1 w' R (fun s' w'' => I s' w'' ∧ μ s' w'' < μ s w')

theorem S11_eq (l_a : Option Addr) (l_l : Nat) (l_c : Nat) (w : World) (R : Value → World → Prop) : Eng.R Try.prog ⟨cal, S11_nx⟩ 34 S11_ann [] (Try.f11.body.getD .skip) (bodyQ Try.prog #[.tmp 2] R) (argE [(.slice l_a l_l l_c)]) w = S11 l_a l_l l_c w R := by kernel_rfl
/-- A call of 'carfax/carfaxlaw08.few', by its condition. -/
theorem S11_calls {l_a : Option Addr} {l_l : Nat} {l_c : Nat} {w : World} {R : Value → World → Prop} (hS : S11 l_a l_l l_c w R) : Ret Try.prog 11 [(.slice l_a l_l l_c)] w R :=
  R_calls (C := ⟨cal, S11_nx⟩) cal_ok follows Try.func11 (c := Try.f11.body.getD .skip) (res := #[.tmp 2]) (n := 34) (by kernel_rfl) (by kernel_rfl) (by kernel_rfl) (by kernel_rfl) ((S11_eq l_a l_l l_c w R).mpr hS)

def S12_ann (p : List Nat) : Option LA :=
  none

def S12_nx (t : Nat) : Option (TypeId × TypeId) := none

def S12 (l_a : Option Addr) (l_l : Nat) (l_c : Nat) (w : World) (R : Value → World → Prop) : Prop :=
  Calls Try.prog 14 ⟨[(.slice l_a l_l l_c)]⟩ w fun e w_ =>
    ∃ (t7_0_a : Option Addr) (t7_0_l : Nat) (t7_0_c : Nat) (t7_1 : Bool),
    e = .returned (.tuple ⟨[(.slice t7_0_a t7_0_l t7_0_c), (.bool t7_1)]⟩) ∧
    R (.bool t7_1) w_

theorem S12_eq (l_a : Option Addr) (l_l : Nat) (l_c : Nat) (w : World) (R : Value → World → Prop) : Eng.R Try.prog ⟨cal, S12_nx⟩ 11 S12_ann [] (Try.f12.body.getD .skip) (bodyQ Try.prog #[.tmp 2] R) (argE [(.slice l_a l_l l_c)]) w = S12 l_a l_l l_c w R := by kernel_rfl
/-- A call of 'carfax/banker.Safe', by its condition. -/
theorem S12_calls {l_a : Option Addr} {l_l : Nat} {l_c : Nat} {w : World} {R : Value → World → Prop} (hS : S12 l_a l_l l_c w R) : Ret Try.prog 12 [(.slice l_a l_l l_c)] w R :=
  R_calls (C := ⟨cal, S12_nx⟩) cal_ok follows Try.func12 (c := Try.f12.body.getD .skip) (res := #[.tmp 2]) (n := 11) (by kernel_rfl) (by kernel_rfl) (by kernel_rfl) (by kernel_rfl) ((S12_eq l_a l_l l_c w R).mpr hS)

def S13_ann (p : List Nat) : Option LA :=
  none

def S13_nx (t : Nat) : Option (TypeId × TypeId) := none

def S13 (l_a : Option Addr) (l_l : Nat) (l_c : Nat) (i : Int) (w : World) (R : Value → World → Prop) : Prop :=
  0 ≤ (i : Int) ∧
  (i : Int) ≤ ((l_c : Nat) : Int) ∧
  0 ≤ ((IntKind.i64.wrap (i + 1)) : Int) ∧
  ((IntKind.i64.wrap (i + 1)) : Int) ≤ ((l_l : Nat) : Int) ∧
  ∃ (t9_a : Option Addr) (t9_l : Nat) (t9_c : Nat) (w_ : World),
  (Builtin.append_ #[22, 22] 22 ⟨[(.slice (some ⟨w.drew.heap.size, 0, none⟩) 0 0), (.slice (slAddr l_a l_c 0 2) ((Int.toNat i) - 0) (l_c - 0))]⟩).run Try.prog (w.drew.alloc (.cells ⟨[]⟩ 28)) = .ok (.slice t9_a t9_l t9_c) w_ ∧
  ∃ (t14_a : Option Addr) (t14_l : Nat) (t14_c : Nat) (w__1 : World),
  (Builtin.append_ #[22, 22] 22 ⟨[(.slice t9_a t9_l t9_c), (.slice (slAddr l_a l_c (Int.toNat (IntKind.i64.wrap (i + 1))) 2) (l_l - (Int.toNat (IntKind.i64.wrap (i + 1)))) (l_c - (Int.toNat (IntKind.i64.wrap (i + 1)))))]⟩).run Try.prog w_ = .ok (.slice t14_a t14_l t14_c) w__1 ∧
  R (.slice t14_a t14_l t14_c) w__1

theorem S13_eq (l_a : Option Addr) (l_l : Nat) (l_c : Nat) (i : Int) (w : World) (R : Value → World → Prop) : Eng.R Try.prog ⟨cal, S13_nx⟩ 15 S13_ann [] (Try.f13.body.getD .skip) (bodyQ Try.prog #[.tmp 4] R) (argE [(.slice l_a l_l l_c), (.int .i64 i)]) w = S13 l_a l_l l_c i w R := by kernel_rfl
/-- A call of 'carfax/carfaxlaw08.without', by its condition. -/
theorem S13_calls {l_a : Option Addr} {l_l : Nat} {l_c : Nat} {i : Int} {w : World} {R : Value → World → Prop} (hS : S13 l_a l_l l_c i w R) : Ret Try.prog 13 [(.slice l_a l_l l_c), (.int .i64 i)] w R :=
  R_calls (C := ⟨cal, S13_nx⟩) cal_ok follows Try.func13 (c := Try.f13.body.getD .skip) (res := #[.tmp 4]) (n := 15) (by kernel_rfl) (by kernel_rfl) (by kernel_rfl) (by kernel_rfl) ((S13_eq l_a l_l l_c i w R).mpr hS)

def S14_ann (p : List Nat) : Option LA :=
  none

def S14_nx (t : Nat) : Option (TypeId × TypeId) := none

def S14_k0 (s_a : Option Addr) (s_l : Nat) (s_c : Nat) (w : World) (R : Value → World → Prop) : Prop :=
  Calls Try.prog 23 ⟨[(.slice s_a s_l s_c)]⟩ w fun e w_ =>
    ∃ (t14_0_a : Option Addr) (t14_0_l : Nat) (t14_0_c : Nat) (t14_1 : Bool),
    e = .returned (.tuple ⟨[(.slice t14_0_a t14_0_l t14_0_c), (.bool t14_1)]⟩) ∧
    R (.tuple ⟨[(.slice t14_0_a t14_0_l t14_0_c), (.bool t14_1)]⟩) w_

def S14 (l_a : Option Addr) (l_l : Nat) (l_c : Nat) (w : World) (R : Value → World → Prop) : Prop :=
  Calls Try.prog 22 ⟨[(.slice l_a l_l l_c)]⟩ w fun e w_ =>
    ∃ (t8_0_a : Option Addr) (t8_0_l : Nat) (t8_0_c : Nat) (t8_1 : Bool),
    e = .returned (.tuple ⟨[(.slice t8_0_a t8_0_l t8_0_c), (.bool t8_1)]⟩) ∧
    cond (!t8_1) (
      R (.tuple ⟨[(.slice none 0 0), (.bool false)]⟩) w_
    ) (
      S14_k0 t8_0_a t8_0_l t8_0_c w_ R
    )

theorem S14_eq (l_a : Option Addr) (l_l : Nat) (l_c : Nat) (w : World) (R : Value → World → Prop) : Eng.R Try.prog ⟨cal, S14_nx⟩ 17 S14_ann [] (Try.f14.body.getD .skip) (bodyQ Try.prog #[.tmp 2, .tmp 3] R) (argE [(.slice l_a l_l l_c)]) w = S14 l_a l_l l_c w R := by kernel_rfl
/-- A call of 'carfax/banker.Order', by its condition. -/
theorem S14_calls {l_a : Option Addr} {l_l : Nat} {l_c : Nat} {w : World} {R : Value → World → Prop} (hS : S14 l_a l_l l_c w R) : Ret Try.prog 14 [(.slice l_a l_l l_c)] w R :=
  R_calls (C := ⟨cal, S14_nx⟩) cal_ok follows Try.func14 (c := Try.f14.body.getD .skip) (res := #[.tmp 2, .tmp 3]) (n := 17) (by kernel_rfl) (by kernel_rfl) (by kernel_rfl) (by kernel_rfl) ((S14_eq l_a l_l l_c w R).mpr hS)

def S15_ann (p : List Nat) : Option LA := match p with
  | [0, 1, 0, 1, 1, 1] => some ⟨[0, 4], [(5, .one (.int .i64))]⟩
  | _ => none

def S15_nx (t : Nat) : Option (TypeId × TypeId) := none

def S15_k2 (l_a : Option Addr) (l_l : Nat) (l_c : Nat) (left_a : Option Addr) (left_l : Nat) (left_c : Nat) (i : Int) (w : World) (R : Value → World → Prop) (B1 : (Int) × Unit → World → Prop) : Prop :=
  ∃ (t20 : Addr),
  left_a = some t20 ∧
  0 ≤ (i : Int) ∧
  (i : Int) < ((left_l : Nat) : Int) ∧
  (∃ u, w.cell? (t20.add (Int.toNat i * 1)) = some u) ∧
  w.frozen? (t20.add (Int.toNat i * 1)) = false ∧
  B1 ((IntKind.i64.wrap (i + 1)), ()) (w.setCell (t20.add (Int.toNat i * 1)) (.bool true))

def S15_k3 (l_a : Option Addr) (l_l : Nat) (l_c : Nat) (left_a : Option Addr) (left_l : Nat) (left_c : Nat) (w : World) (R : Value → World → Prop) : Prop :=
  Calls Try.prog 24 ⟨[(.slice l_a l_l l_c), (.slice left_a left_l left_c), (.int .i64 ((l_l : Nat) : Int))]⟩ w fun e w_ =>
    ∃ (t25_0_a : Option Addr) (t25_0_l : Nat) (t25_0_c : Nat) (t25_1 : Bool),
    e = .returned (.tuple ⟨[(.slice t25_0_a t25_0_l t25_0_c), (.bool t25_1)]⟩) ∧
    R (.tuple ⟨[(.slice t25_0_a t25_0_l t25_0_c), (.bool t25_1)]⟩) w_

def S15_L1 (l_a : Option Addr) (l_l : Nat) (l_c : Nat) (left_a : Option Addr) (left_l : Nat) (left_c : Nat) (i : Int) (w : World) (R : Value → World → Prop) (B1 : (Int) × Unit → World → Prop) : Prop :=
  cond (decide ((i : Int) < ((l_l : Nat) : Int))) (
    S15_k2 l_a l_l l_c left_a left_l left_c i w R B1
  ) (
    S15_k3 l_a l_l l_c left_a left_l left_c w R
  )

def S15_k0 (l_a : Option Addr) (l_l : Nat) (l_c : Nat) (w : World) (R : Value → World → Prop) : Prop :=
  ∃ (t11_a : Option Addr) (t11_l : Nat) (t11_c : Nat) (w_ : World),
  (Instr.makeSlice 40 (.int .i64 ((l_l : Nat) : Int)) (.int .i64 ((l_l : Nat) : Int))).run Try.prog w = .ok (.slice t11_a t11_l t11_c) w_ ∧
  ∃ (I : (Int) × Unit → World → Prop) (μ : (Int) × Unit → World → Nat),
  I (0, ()) w_ ∧
  ∀ (J : Env) (s : (Int) × Unit) (w' : World), I s w' →
    S15_L1 l_a l_l l_c t11_a t11_l t11_c s.1 w' R (fun s' w'' => I s' w'' ∧ μ s' w'' < μ s w')

def S15 (l_a : Option Addr) (l_l : Nat) (l_c : Nat) (w : World) (R : Value → World → Prop) : Prop :=
  Calls Try.prog 17 ⟨[(.slice l_a l_l l_c)]⟩ w fun e w_ =>
    ∃ (t7 : Bool),
    e = .returned (.bool t7) ∧
    cond (!t7) (
      R (.tuple ⟨[(.slice none 0 0), (.bool false)]⟩) w_
    ) (
      S15_k0 l_a l_l l_c w_ R
    )

theorem S15_eq (l_a : Option Addr) (l_l : Nat) (l_c : Nat) (w : World) (R : Value → World → Prop) : Eng.R Try.prog ⟨cal, S15_nx⟩ 28 S15_ann [] (Try.f15.body.getD .skip) (bodyQ Try.prog #[.tmp 2, .tmp 3] R) (argE [(.slice l_a l_l l_c)]) w = S15 l_a l_l l_c w R := by kernel_rfl
/-- A call of 'carfax/carfaxref08.Order', by its condition. -/
theorem S15_calls {l_a : Option Addr} {l_l : Nat} {l_c : Nat} {w : World} {R : Value → World → Prop} (hS : S15 l_a l_l l_c w R) : Ret Try.prog 15 [(.slice l_a l_l l_c)] w R :=
  R_calls (C := ⟨cal, S15_nx⟩) cal_ok follows Try.func15 (c := Try.f15.body.getD .skip) (res := #[.tmp 2, .tmp 3]) (n := 28) (by kernel_rfl) (by kernel_rfl) (by kernel_rfl) (by kernel_rfl) ((S15_eq l_a l_l l_c w R).mpr hS)

def S16_ann (p : List Nat) : Option LA :=
  none

def S16_nx (t : Nat) : Option (TypeId × TypeId) := none

def S16 (l_a : Option Addr) (l_l : Nat) (l_c : Nat) (w : World) (R : Value → World → Prop) : Prop :=
  Calls Try.prog 22 ⟨[(.slice l_a l_l l_c)]⟩ w fun e w_ =>
    ∃ (t7_0_a : Option Addr) (t7_0_l : Nat) (t7_0_c : Nat) (t7_1 : Bool),
    e = .returned (.tuple ⟨[(.slice t7_0_a t7_0_l t7_0_c), (.bool t7_1)]⟩) ∧
    R (.bool t7_1) w_

theorem S16_eq (l_a : Option Addr) (l_l : Nat) (l_c : Nat) (w : World) (R : Value → World → Prop) : Eng.R Try.prog ⟨cal, S16_nx⟩ 11 S16_ann [] (Try.f16.body.getD .skip) (bodyQ Try.prog #[.tmp 2] R) (argE [(.slice l_a l_l l_c)]) w = S16 l_a l_l l_c w R := by kernel_rfl
/-- A call of 'carfax/banker.Right', by its condition. -/
theorem S16_calls {l_a : Option Addr} {l_l : Nat} {l_c : Nat} {w : World} {R : Value → World → Prop} (hS : S16 l_a l_l l_c w R) : Ret Try.prog 16 [(.slice l_a l_l l_c)] w R :=
  R_calls (C := ⟨cal, S16_nx⟩) cal_ok follows Try.func16 (c := Try.f16.body.getD .skip) (res := #[.tmp 2]) (n := 11) (by kernel_rfl) (by kernel_rfl) (by kernel_rfl) (by kernel_rfl) ((S16_eq l_a l_l l_c w R).mpr hS)

def S17_ann (p : List Nat) : Option LA := match p with
  | [0, 1, 0, 1, 1] => some ⟨[0], [(3, .one (.int .i64))]⟩
  | [0, 1, 1, 0, 0, 1, 0, 0, 1, 0, 1, 1] => some ⟨[0, 3], [(4, .one (.int .i64))]⟩
  | [0, 1, 0, 0, 1, 0, 0, 1, 1, 0, 0, 1, 0, 0, 1, 0, 1, 1] => some ⟨[0, 3, 4], [(5, .one (.int .i64))]⟩
  | _ => none

def S17_nx (t : Nat) : Option (TypeId × TypeId) := none

def S17_k9 (l_a : Option Addr) (l_l : Nat) (l_c : Nat) (i : Int) (k : Int) (j : Int) (t59 : Bool) (w : World) (R : Value → World → Prop) (B1 : (Int) × Unit → World → Prop) (B2 : (Int) × Unit → World → Prop) (B3 : (Int) × Unit → World → Prop) : Prop :=
  cond t59 (
    R (.bool false) w
  ) (
    B3 ((IntKind.i64.wrap (j + 1)), ()) w
  )

def S17_k8 (l_a : Option Addr) (l_l : Nat) (l_c : Nat) (i : Int) (k : Int) (j : Int) (w : World) (R : Value → World → Prop) (B1 : (Int) × Unit → World → Prop) (B2 : (Int) × Unit → World → Prop) (B3 : (Int) × Unit → World → Prop) : Prop :=
  ∃ (t48 : Addr),
  l_a = some t48 ∧
  0 ≤ (i : Int) ∧
  (i : Int) < ((l_l : Nat) : Int) ∧
  ∃ (t56 : Addr),
  l_a = some t56 ∧
  0 ≤ (k : Int) ∧
  (k : Int) < ((l_l : Nat) : Int) ∧
  ∃ (t50_a : Option Addr) (t50_l : Nat) (t50_c : Nat),
  w.drew.cell? (t48.add (Int.toNat i * 2)) = some (.slice t50_a t50_l t50_c) ∧
  ∃ (t52 : Addr),
  t50_a = some t52 ∧
  0 ≤ (j : Int) ∧
  (j : Int) < ((t50_l : Nat) : Int) ∧
  ∃ (t53 : Int),
  w.drew.cell? (t52.add (Int.toNat j * 1)) = some (.int .i64 t53) ∧
  ∃ (t58_a : Option Addr) (t58_l : Nat) (t58_c : Nat),
  w.drew.cell? (t56.add (Int.toNat k * 2)) = some (.slice t58_a t58_l t58_c) ∧
  Calls Try.prog 26 ⟨[(.int .i64 t53), (.slice t58_a t58_l t58_c)]⟩ w.drew fun e w_ =>
    ∃ (t59 : Bool),
    e = .returned (.bool t59) ∧
    S17_k9 l_a l_l l_c i k j t59 w_ R B1 B2 B3

def S17_L7 (l_a : Option Addr) (l_l : Nat) (l_c : Nat) (i : Int) (k : Int) (j : Int) (w : World) (R : Value → World → Prop) (B1 : (Int) × Unit → World → Prop) (B2 : (Int) × Unit → World → Prop) (B3 : (Int) × Unit → World → Prop) : Prop :=
  ∃ (t39 : Addr),
  l_a = some t39 ∧
  0 ≤ (i : Int) ∧
  (i : Int) < ((l_l : Nat) : Int) ∧
  ∃ (t41_a : Option Addr) (t41_l : Nat) (t41_c : Nat),
  w.cell? (t39.add (Int.toNat i * 2)) = some (.slice t41_a t41_l t41_c) ∧
  cond (decide ((j : Int) < ((t41_l : Nat) : Int))) (
    S17_k8 l_a l_l l_c i k j w R B1 B2 B3
  ) (
    B2 ((IntKind.i64.wrap (k + 1)), ()) w
  )

def S17_k6 (l_a : Option Addr) (l_l : Nat) (l_c : Nat) (i : Int) (k : Int) (w : World) (R : Value → World → Prop) (B1 : (Int) × Unit → World → Prop) (B2 : (Int) × Unit → World → Prop) : Prop :=
  ∃ (I : (Int) × Unit → World → Prop) (μ : (Int) × Unit → World → Nat),
  I (0, ()) w ∧
  ∀ (J : Env) (s : (Int) × Unit) (w' : World), I s w' →
    S17_L7 l_a l_l l_c i k s.1 w' R B1 B2 (fun s' w'' => I s' w'' ∧ μ s' w'' < μ s w')

def S17_L5 (l_a : Option Addr) (l_l : Nat) (l_c : Nat) (i : Int) (k : Int) (w : World) (R : Value → World → Prop) (B1 : (Int) × Unit → World → Prop) (B2 : (Int) × Unit → World → Prop) : Prop :=
  cond (decide ((k : Int) < i)) (
    S17_k6 l_a l_l l_c i k w R B1 B2
  ) (
    B1 ((IntKind.i64.wrap (i + 1)), ()) w
  )

def S17_k4 (l_a : Option Addr) (l_l : Nat) (l_c : Nat) (i : Int) (w : World) (R : Value → World → Prop) (B1 : (Int) × Unit → World → Prop) : Prop :=
  ∃ (I : (Int) × Unit → World → Prop) (μ : (Int) × Unit → World → Nat),
  I (0, ()) w ∧
  ∀ (J : Env) (s : (Int) × Unit) (w' : World), I s w' →
    S17_L5 l_a l_l l_c i s.1 w' R B1 (fun s' w'' => I s' w'' ∧ μ s' w'' < μ s w')

def S17_k3 (l_a : Option Addr) (l_l : Nat) (l_c : Nat) (i : Int) (t30 : Bool) (w : World) (R : Value → World → Prop) (B1 : (Int) × Unit → World → Prop) : Prop :=
  cond t30 (
    R (.bool false) w
  ) (
    S17_k4 l_a l_l l_c i w R B1
  )

def S17_k2 (l_a : Option Addr) (l_l : Nat) (l_c : Nat) (i : Int) (w : World) (R : Value → World → Prop) (B1 : (Int) × Unit → World → Prop) : Prop :=
  ∃ (t17 : Addr),
  l_a = some t17 ∧
  0 ≤ (i : Int) ∧
  (i : Int) < ((l_l : Nat) : Int) ∧
  ∃ (t19_a : Option Addr) (t19_l : Nat) (t19_c : Nat),
  w.cell? (t17.add (Int.toNat i * 2)) = some (.slice t19_a t19_l t19_c) ∧
  Calls Try.prog 25 ⟨[(.slice t19_a t19_l t19_c)]⟩ w fun e w_ =>
    ∃ (t20 : Bool),
    e = .returned (.bool t20) ∧
    cond (!t20) (
      S17_k3 l_a l_l l_c i true w_ R B1
    ) (
      ∃ (t25 : Addr),
      l_a = some t25 ∧
      0 ≤ (i : Int) ∧
      (i : Int) < ((l_l : Nat) : Int) ∧
      ∃ (t27_a : Option Addr) (t27_l : Nat) (t27_c : Nat),
      w_.cell? ((t25.add (Int.toNat i * 2)).add 1) = some (.slice t27_a t27_l t27_c) ∧
      Calls Try.prog 25 ⟨[(.slice t27_a t27_l t27_c)]⟩ w_ fun e w__1 =>
        ∃ (t28 : Bool),
        e = .returned (.bool t28) ∧
        S17_k3 l_a l_l l_c i (!t28) w__1 R B1
    )

def S17_L1 (l_a : Option Addr) (l_l : Nat) (l_c : Nat) (i : Int) (w : World) (R : Value → World → Prop) (B1 : (Int) × Unit → World → Prop) : Prop :=
  cond (decide ((i : Int) < ((l_l : Nat) : Int))) (
    S17_k2 l_a l_l l_c i w R B1
  ) (
    R (.bool true) w
  )

def S17_k0 (l_a : Option Addr) (l_l : Nat) (l_c : Nat) (w : World) (R : Value → World → Prop) : Prop :=
  ∃ (I : (Int) × Unit → World → Prop) (μ : (Int) × Unit → World → Nat),
  I (0, ()) w ∧
  ∀ (J : Env) (s : (Int) × Unit) (w' : World), I s w' →
    S17_L1 l_a l_l l_c s.1 w' R (fun s' w'' => I s' w'' ∧ μ s' w'' < μ s w')

def S17 (l_a : Option Addr) (l_l : Nat) (l_c : Nat) (w : World) (R : Value → World → Prop) : Prop :=
  cond (decide ((8 : Int) < ((l_l : Nat) : Int))) (
    R (.bool false) w
  ) (
    S17_k0 l_a l_l l_c w R
  )

theorem S17_eq (l_a : Option Addr) (l_l : Nat) (l_c : Nat) (w : World) (R : Value → World → Prop) : Eng.R Try.prog ⟨cal, S17_nx⟩ 60 S17_ann [] (Try.f17.body.getD .skip) (bodyQ Try.prog #[.tmp 2] R) (argE [(.slice l_a l_l l_c)]) w = S17 l_a l_l l_c w R := by kernel_rfl
/-- A call of 'carfax/carfaxref08.Right', by its condition. -/
theorem S17_calls {l_a : Option Addr} {l_l : Nat} {l_c : Nat} {w : World} {R : Value → World → Prop} (hS : S17 l_a l_l l_c w R) : Ret Try.prog 17 [(.slice l_a l_l l_c)] w R :=
  R_calls (C := ⟨cal, S17_nx⟩) cal_ok follows Try.func17 (c := Try.f17.body.getD .skip) (res := #[.tmp 2]) (n := 60) (by kernel_rfl) (by kernel_rfl) (by kernel_rfl) (by kernel_rfl) ((S17_eq l_a l_l l_c w R).mpr hS)

def S18_ann (p : List Nat) : Option LA := match p with
  | [0, 1, 0, 1, 1] => some ⟨[0, 1], [(5, .one (.int .i64))]⟩
  | _ => none

def S18_nx (t : Nat) : Option (TypeId × TypeId) := none

def S18_k3 (a_a : Option Addr) (a_l : Nat) (a_c : Nat) (b_a : Option Addr) (b_l : Nat) (b_c : Nat) (i : Int) (t25 : Bool) (w : World) (R : Value → World → Prop) (B1 : (Int) × Unit → World → Prop) : Prop :=
  cond t25 (
    R (.bool false) w
  ) (
    B1 ((IntKind.i64.wrap (i + 1)), ()) w
  )

def S18_k2 (a_a : Option Addr) (a_l : Nat) (a_c : Nat) (b_a : Option Addr) (b_l : Nat) (b_c : Nat) (i : Int) (w : World) (R : Value → World → Prop) (B1 : (Int) × Unit → World → Prop) : Prop :=
  ∃ (t19 : Addr),
  a_a = some t19 ∧
  0 ≤ (i : Int) ∧
  (i : Int) < ((a_l : Nat) : Int) ∧
  ∃ (t20 : Int),
  w.drew.cell? (t19.add (Int.toNat i * 1)) = some (.int .i64 t20) ∧
  ∃ (t23 : Addr),
  b_a = some t23 ∧
  0 ≤ (i : Int) ∧
  (i : Int) < ((b_l : Nat) : Int) ∧
  ∃ (t24 : Int),
  w.drew.cell? (t23.add (Int.toNat i * 1)) = some (.int .i64 t24) ∧
  S18_k3 a_a a_l a_c b_a b_l b_c i (!decide ((t20 : Int) = t24)) w.drew R B1

def S18_L1 (a_a : Option Addr) (a_l : Nat) (a_c : Nat) (b_a : Option Addr) (b_l : Nat) (b_c : Nat) (i : Int) (w : World) (R : Value → World → Prop) (B1 : (Int) × Unit → World → Prop) : Prop :=
  cond (decide ((i : Int) < ((a_l : Nat) : Int))) (
    S18_k2 a_a a_l a_c b_a b_l b_c i w R B1
  ) (
    R (.bool true) w
  )

def S18_k0 (a_a : Option Addr) (a_l : Nat) (a_c : Nat) (b_a : Option Addr) (b_l : Nat) (b_c : Nat) (w : World) (R : Value → World → Prop) : Prop :=
  ∃ (I : (Int) × Unit → World → Prop) (μ : (Int) × Unit → World → Nat),
  I (0, ()) w ∧
  ∀ (J : Env) (s : (Int) × Unit) (w' : World), I s w' →
    S18_L1 a_a a_l a_c b_a b_l b_c s.1 w' R (fun s' w'' => I s' w'' ∧ μ s' w'' < μ s w')

def S18 (a_a : Option Addr) (a_l : Nat) (a_c : Nat) (b_a : Option Addr) (b_l : Nat) (b_c : Nat) (w : World) (R : Value → World → Prop) : Prop :=
  cond (!decide ((((a_l : Nat) : Int) : Int) = ((b_l : Nat) : Int))) (
    R (.bool false) w
  ) (
    S18_k0 a_a a_l a_c b_a b_l b_c w R
  )

theorem S18_eq (a_a : Option Addr) (a_l : Nat) (a_c : Nat) (b_a : Option Addr) (b_l : Nat) (b_c : Nat) (w : World) (R : Value → World → Prop) : Eng.R Try.prog ⟨cal, S18_nx⟩ 26 S18_ann [] (Try.f18.body.getD .skip) (bodyQ Try.prog #[.tmp 4] R) (argE [(.slice a_a a_l a_c), (.slice b_a b_l b_c)]) w = S18 a_a a_l a_c b_a b_l b_c w R := by kernel_rfl
/-- A call of 'carfax/carfaxref03.SameInts', by its condition. -/
theorem S18_calls {a_a : Option Addr} {a_l : Nat} {a_c : Nat} {b_a : Option Addr} {b_l : Nat} {b_c : Nat} {w : World} {R : Value → World → Prop} (hS : S18 a_a a_l a_c b_a b_l b_c w R) : Ret Try.prog 18 [(.slice a_a a_l a_c), (.slice b_a b_l b_c)] w R :=
  R_calls (C := ⟨cal, S18_nx⟩) cal_ok follows Try.func18 (c := Try.f18.body.getD .skip) (res := #[.tmp 4]) (n := 26) (by kernel_rfl) (by kernel_rfl) (by kernel_rfl) (by kernel_rfl) ((S18_eq a_a a_l a_c b_a b_l b_c w R).mpr hS)

def S19_ann (p : List Nat) : Option LA := match p with
  | [0, 1, 0, 1] => some ⟨[1, 9, 10], [(11, .one (.int .i64))]⟩
  | [0, 1, 1, 0, 0, 1, 1, 0, 0, 1, 0, 1] => some ⟨[1, 6, 9, 10, 11, 15, 16], [(17, .one (.int .i64))]⟩
  | _ => none

def S19_nx (t : Nat) : Option (TypeId × TypeId) := none

def S19_k3 (b_a : Option Addr) (b_l : Nat) (b_c : Nat) (x : Int) (t9_a : Option Addr) (t9_l : Nat) (t9_c : Nat) (t10 : Int) (t11 : Int) (t15_a : Option Addr) (t15_l : Nat) (t15_c : Nat) (t16 : Int) (t17 : Int) (w : World) (R : Value → World → Prop) (B1 : (Int) × Unit → World → Prop) (B2 : (Int) × Unit → World → Prop) : Prop :=
  ∃ (t19 : Addr),
  t15_a = some t19 ∧
  0 ≤ (t17 : Int) ∧
  (t17 : Int) < ((t15_l : Nat) : Int) ∧
  ∃ (t20 : Int),
  w.cell? (t19.add (Int.toNat t17 * 1)) = some (.int .i64 t20) ∧
  cond (decide ((x : Int) = t20)) (
    R (.bool true) w
  ) (
    B2 ((IntKind.i64.wrap (t17 + 1)), ()) w
  )

def S19_L2 (b_a : Option Addr) (b_l : Nat) (b_c : Nat) (x : Int) (t9_a : Option Addr) (t9_l : Nat) (t9_c : Nat) (t10 : Int) (t11 : Int) (t15_a : Option Addr) (t15_l : Nat) (t15_c : Nat) (t16 : Int) (t17 : Int) (w : World) (R : Value → World → Prop) (B1 : (Int) × Unit → World → Prop) (B2 : (Int) × Unit → World → Prop) : Prop :=
  cond (decide ((t17 : Int) < t16)) (
    S19_k3 b_a b_l b_c x t9_a t9_l t9_c t10 t11 t15_a t15_l t15_c t16 t17 w R B1 B2
  ) (
    B1 ((IntKind.i64.wrap (t11 + 1)), ()) w
  )

def S19_k1 (b_a : Option Addr) (b_l : Nat) (b_c : Nat) (t9_a : Option Addr) (t9_l : Nat) (t9_c : Nat) (t10 : Int) (t11 : Int) (w : World) (R : Value → World → Prop) (B1 : (Int) × Unit → World → Prop) : Prop :=
  ∃ (t13 : Addr),
  t9_a = some t13 ∧
  0 ≤ (t11 : Int) ∧
  (t11 : Int) < ((t9_l : Nat) : Int) ∧
  ∃ (t14 : Int),
  w.cell? (t13.add (Int.toNat t11 * 1)) = some (.int .i64 t14) ∧
  ∃ (I : (Int) × Unit → World → Prop) (μ : (Int) × Unit → World → Nat),
  I (0, ()) w ∧
  ∀ (J : Env) (s : (Int) × Unit) (w' : World), I s w' →
    S19_L2 b_a b_l b_c t14 t9_a t9_l t9_c t10 t11 b_a b_l b_c ((b_l : Nat) : Int) s.1 w' R B1 (fun s' w'' => I s' w'' ∧ μ s' w'' < μ s w')

def S19_L0 (b_a : Option Addr) (b_l : Nat) (b_c : Nat) (t9_a : Option Addr) (t9_l : Nat) (t9_c : Nat) (t10 : Int) (t11 : Int) (w : World) (R : Value → World → Prop) (B1 : (Int) × Unit → World → Prop) : Prop :=
  cond (decide ((t11 : Int) < t10)) (
    S19_k1 b_a b_l b_c t9_a t9_l t9_c t10 t11 w R B1
  ) (
    R (.bool false) w
  )

def S19 (a_a : Option Addr) (a_l : Nat) (a_c : Nat) (b_a : Option Addr) (b_l : Nat) (b_c : Nat) (w : World) (R : Value → World → Prop) : Prop :=
  ∃ (I : (Int) × Unit → World → Prop) (μ : (Int) × Unit → World → Nat),
  I (0, ()) w ∧
  ∀ (J : Env) (s : (Int) × Unit) (w' : World), I s w' →
    S19_L0 b_a b_l b_c a_a a_l a_c ((a_l : Nat) : Int) s.1 w' R (fun s' w'' => I s' w'' ∧ μ s' w'' < μ s w')

theorem S19_eq (a_a : Option Addr) (a_l : Nat) (a_c : Nat) (b_a : Option Addr) (b_l : Nat) (b_c : Nat) (w : World) (R : Value → World → Prop) : Eng.R Try.prog ⟨cal, S19_nx⟩ 26 S19_ann [] (Try.f19.body.getD .skip) (bodyQ Try.prog #[.tmp 4] R) (argE [(.slice a_a a_l a_c), (.slice b_a b_l b_c)]) w = S19 a_a a_l a_c b_a b_l b_c w R := by kernel_rfl
/-- A call of 'carfax/carfaxlaw08.meets', by its condition. -/
theorem S19_calls {a_a : Option Addr} {a_l : Nat} {a_c : Nat} {b_a : Option Addr} {b_l : Nat} {b_c : Nat} {w : World} {R : Value → World → Prop} (hS : S19 a_a a_l a_c b_a b_l b_c w R) : Ret Try.prog 19 [(.slice a_a a_l a_c), (.slice b_a b_l b_c)] w R :=
  R_calls (C := ⟨cal, S19_nx⟩) cal_ok follows Try.func19 (c := Try.f19.body.getD .skip) (res := #[.tmp 4]) (n := 26) (by kernel_rfl) (by kernel_rfl) (by kernel_rfl) (by kernel_rfl) ((S19_eq a_a a_l a_c b_a b_l b_c w R).mpr hS)

def S20_ann (p : List Nat) : Option LA :=
  none

def S20_nx (t : Nat) : Option (TypeId × TypeId) := none

def S20_k3 (s_a : Option Addr) (s_l : Nat) (s_c : Nat) (w : World) (R : Value → World → Prop) : Prop :=
  Calls Try.prog 23 ⟨[(.slice s_a s_l s_c)]⟩ w fun e w_ =>
    ∃ (t51_0_a : Option Addr) (t51_0_l : Nat) (t51_0_c : Nat) (t51_1 : Bool),
    e = .returned (.tuple ⟨[(.slice t51_0_a t51_0_l t51_0_c), (.bool t51_1)]⟩) ∧
    R (.bool t51_1) w_

def S20_k2 (who : Int) (s_a : Option Addr) (s_l : Nat) (s_c : Nat) (given : Addr) (w : World) (R : Value → World → Prop) : Prop :=
  ∃ (t42 : Addr),
  s_a = some t42 ∧
  0 ≤ (who : Int) ∧
  (who : Int) < ((s_l : Nat) : Int) ∧
  ∃ (t44 : Int),
  w.drew.cell? (t42.add (Int.toNat who * 2)) = some (.int .u32 t44) ∧
  ∃ (t45 : Int),
  w.drew.cell? given = some (.int .u32 t45) ∧
  ∃ (t47 : Addr),
  s_a = some t47 ∧
  0 ≤ (who : Int) ∧
  (who : Int) < ((s_l : Nat) : Int) ∧
  (∃ u, w.drew.cell? (t47.add (Int.toNat who * 2)) = some u) ∧
  w.drew.frozen? (t47.add (Int.toNat who * 2)) = false ∧
  S20_k3 s_a s_l s_c (w.drew.setCell (t47.add (Int.toNat who * 2)) (.int .u32 (bitsI .or .u32 t44 t45))) R

def S20_k1 (who : Int) (zone : Int) (s_a : Option Addr) (s_l : Nat) (s_c : Nat) (w : World) (R : Value → World → Prop) : Prop :=
  0 ≤ (zone : Int) ∧
  (∃ u, (w.alloc (.cells ⟨[(.int .u32 0)]⟩ 45)).cell? ⟨w.heap.size, 0, none⟩ = some u) ∧
  (w.alloc (.cells ⟨[(.int .u32 0)]⟩ 45)).frozen? ⟨w.heap.size, 0, none⟩ = false ∧
  Calls Try.prog 27 ⟨[(.slice s_a s_l s_c), (.func (.func 28) ⟨[]⟩ ⟨[(.pointer (some ⟨w.heap.size, 0, none⟩))]⟩)]⟩ ((w.alloc (.cells ⟨[(.int .u32 0)]⟩ 45)).setCell ⟨w.heap.size, 0, none⟩ (.int .u32 (IntKind.u32.wrap (1 * 2 ^ (min (Int.toNat zone) (IntKind.u32.bits)))))) fun e w_ =>
    ∃ (t39 : Bool),
    e = .returned (.bool t39) ∧
    cond t39 (
      R (.bool false) w_
    ) (
      S20_k2 who s_a s_l s_c ⟨w.heap.size, 0, none⟩ w_ R
    )

def S20_k0 (who : Int) (zone : Int) (s_a : Option Addr) (s_l : Nat) (s_c : Nat) (t34 : Bool) (w : World) (R : Value → World → Prop) : Prop :=
  cond t34 (
    R (.bool false) w
  ) (
    S20_k1 who zone s_a s_l s_c w R
  )

def S20 (l_a : Option Addr) (l_l : Nat) (l_c : Nat) (who : Int) (zone : Int) (w : World) (R : Value → World → Prop) : Prop :=
  Calls Try.prog 22 ⟨[(.slice l_a l_l l_c)]⟩ w fun e w_ =>
    ∃ (t12_0_a : Option Addr) (t12_0_l : Nat) (t12_0_c : Nat) (t12_1 : Bool),
    e = .returned (.tuple ⟨[(.slice t12_0_a t12_0_l t12_0_c), (.bool t12_1)]⟩) ∧
    cond (!t12_1) (
      S20_k0 who zone t12_0_a t12_0_l t12_0_c true w_ R
    ) (
      cond (decide ((who : Int) < 0)) (
        S20_k0 who zone t12_0_a t12_0_l t12_0_c true w_ R
      ) (
        cond (decide ((((t12_0_l : Nat) : Int) : Int) ≤ who)) (
          S20_k0 who zone t12_0_a t12_0_l t12_0_c true w_ R
        ) (
          cond (decide ((zone : Int) < 0)) (
            S20_k0 who zone t12_0_a t12_0_l t12_0_c true w_ R
          ) (
            S20_k0 who zone t12_0_a t12_0_l t12_0_c (decide ((26 : Int) ≤ zone)) w_ R
          )
        )
      )
    )

theorem S20_eq (l_a : Option Addr) (l_l : Nat) (l_c : Nat) (who : Int) (zone : Int) (w : World) (R : Value → World → Prop) : Eng.R Try.prog ⟨cal, S20_nx⟩ 55 S20_ann [] (Try.f20.body.getD .skip) (bodyQ Try.prog #[.tmp 6] R) (argE [(.slice l_a l_l l_c), (.int .i64 who), (.int .i64 zone)]) w = S20 l_a l_l l_c who zone w R := by kernel_rfl
/-- A call of 'carfax/banker.May', by its condition. -/
theorem S20_calls {l_a : Option Addr} {l_l : Nat} {l_c : Nat} {who : Int} {zone : Int} {w : World} {R : Value → World → Prop} (hS : S20 l_a l_l l_c who zone w R) : Ret Try.prog 20 [(.slice l_a l_l l_c), (.int .i64 who), (.int .i64 zone)] w R :=
  R_calls (C := ⟨cal, S20_nx⟩) cal_ok follows Try.func20 (c := Try.f20.body.getD .skip) (res := #[.tmp 6]) (n := 55) (by kernel_rfl) (by kernel_rfl) (by kernel_rfl) (by kernel_rfl) ((S20_eq l_a l_l l_c who zone w R).mpr hS)

def S21_ann (p : List Nat) : Option LA := match p with
  | [0, 1, 0, 1, 1, 1] => some ⟨[0, 1, 2], [(7, .one .slice), (8, .one (.int .i64))]⟩
  | _ => none

def S21_nx (t : Nat) : Option (TypeId × TypeId) := none

def S21_k5 (l_a : Option Addr) (l_l : Nat) (l_c : Nat) (who : Int) (zone : Int) (x_a : Option Addr) (x_l : Nat) (x_c : Nat) (i : Int) (c : Addr) (w : World) (R : Value → World → Prop) (B1 : (Option Addr × Nat × Nat) × (Int) × Unit → World → Prop) : Prop :=
  ∃ (t60_0_a : Option Addr) (t60_0_l : Nat) (t60_0_c : Nat),
  w.cell? c = some (.slice t60_0_a t60_0_l t60_0_c) ∧
  ∃ (t60_1_a : Option Addr) (t60_1_l : Nat) (t60_1_c : Nat),
  w.cell? (c.add 1) = some (.slice t60_1_a t60_1_l t60_1_c) ∧
  ∃ (t62_a : Option Addr) (t62_l : Nat) (t62_c : Nat) (w_ : World),
  (Builtin.append_ #[22, 22] 22 ⟨[(.slice x_a x_l x_c), (.slice (some ⟨w.heap.size, 0, none⟩) 1 1)]⟩).run Try.prog (w.alloc (.cells ⟨[(.slice t60_0_a t60_0_l t60_0_c), (.slice t60_1_a t60_1_l t60_1_c)]⟩ 28)) = .ok (.slice t62_a t62_l t62_c) w_ ∧
  B1 ((t62_a, t62_l, t62_c), (IntKind.i64.wrap (i + 1)), ()) w_

def S21_k4 (l_a : Option Addr) (l_l : Nat) (l_c : Nat) (who : Int) (zone : Int) (x_a : Option Addr) (x_l : Nat) (x_c : Nat) (i : Int) (w : World) (R : Value → World → Prop) (B1 : (Option Addr × Nat × Nat) × (Int) × Unit → World → Prop) : Prop :=
  ∃ (t48 : Addr),
  l_a = some t48 ∧
  0 ≤ (i : Int) ∧
  (i : Int) < ((l_l : Nat) : Int) ∧
  ∃ (t49_0_a : Option Addr) (t49_0_l : Nat) (t49_0_c : Nat),
  w.cell? (t48.add (Int.toNat i * 2)) = some (.slice t49_0_a t49_0_l t49_0_c) ∧
  ∃ (t49_1_a : Option Addr) (t49_1_l : Nat) (t49_1_c : Nat),
  w.cell? ((t48.add (Int.toNat i * 2)).add 1) = some (.slice t49_1_a t49_1_l t49_1_c) ∧
  (∃ u, (w.alloc (.cells ⟨[(.slice none 0 0), (.slice none 0 0)]⟩ 28)).cell? ⟨w.heap.size, 0, none⟩ = some u) ∧
  (w.alloc (.cells ⟨[(.slice none 0 0), (.slice none 0 0)]⟩ 28)).frozen? ⟨w.heap.size, 0, none⟩ = false ∧
  (∃ u, ((w.alloc (.cells ⟨[(.slice none 0 0), (.slice none 0 0)]⟩ 28)).setCell ⟨w.heap.size, 0, none⟩ (.slice t49_0_a t49_0_l t49_0_c)).cell? ⟨w.heap.size, 1, none⟩ = some u) ∧
  ((w.alloc (.cells ⟨[(.slice none 0 0), (.slice none 0 0)]⟩ 28)).setCell ⟨w.heap.size, 0, none⟩ (.slice t49_0_a t49_0_l t49_0_c)).frozen? ⟨w.heap.size, 1, none⟩ = false ∧
  cond (decide ((i : Int) = who)) (
    ∃ (t56_a : Option Addr) (t56_l : Nat) (t56_c : Nat),
    ((((w.alloc (.cells ⟨[(.slice none 0 0), (.slice none 0 0)]⟩ 28)).setCell ⟨w.heap.size, 0, none⟩ (.slice t49_0_a t49_0_l t49_0_c)).setCell ⟨w.heap.size, 1, none⟩ (.slice t49_1_a t49_1_l t49_1_c)).alloc (.cells ⟨[(.int .i64 zone)]⟩ 3)).cell? ⟨w.heap.size, 0, none⟩ = some (.slice t56_a t56_l t56_c) ∧
    ∃ (t57_a : Option Addr) (t57_l : Nat) (t57_c : Nat) (w_ : World),
    (Builtin.append_ #[26, 26] 26 ⟨[(.slice (some ⟨(((w.alloc (.cells ⟨[(.slice none 0 0), (.slice none 0 0)]⟩ 28)).setCell ⟨w.heap.size, 0, none⟩ (.slice t49_0_a t49_0_l t49_0_c)).setCell ⟨w.heap.size, 1, none⟩ (.slice t49_1_a t49_1_l t49_1_c)).heap.size, 0, none⟩) 1 1), (.slice t56_a t56_l t56_c)]⟩).run Try.prog ((((w.alloc (.cells ⟨[(.slice none 0 0), (.slice none 0 0)]⟩ 28)).setCell ⟨w.heap.size, 0, none⟩ (.slice t49_0_a t49_0_l t49_0_c)).setCell ⟨w.heap.size, 1, none⟩ (.slice t49_1_a t49_1_l t49_1_c)).alloc (.cells ⟨[(.int .i64 zone)]⟩ 3)) = .ok (.slice t57_a t57_l t57_c) w_ ∧
    (∃ u, w_.cell? ⟨w.heap.size, 0, none⟩ = some u) ∧
    w_.frozen? ⟨w.heap.size, 0, none⟩ = false ∧
    S21_k5 l_a l_l l_c who zone x_a x_l x_c i ⟨w.heap.size, 0, none⟩ (w_.setCell ⟨w.heap.size, 0, none⟩ (.slice t57_a t57_l t57_c)) R B1
  ) (
    S21_k5 l_a l_l l_c who zone x_a x_l x_c i ⟨w.heap.size, 0, none⟩ (((w.alloc (.cells ⟨[(.slice none 0 0), (.slice none 0 0)]⟩ 28)).setCell ⟨w.heap.size, 0, none⟩ (.slice t49_0_a t49_0_l t49_0_c)).setCell ⟨w.heap.size, 1, none⟩ (.slice t49_1_a t49_1_l t49_1_c)) R B1
  )

def S21_k3 (l_a : Option Addr) (l_l : Nat) (l_c : Nat) (who : Int) (zone : Int) (x_a : Option Addr) (x_l : Nat) (x_c : Nat) (i : Int) (w : World) (R : Value → World → Prop) (B1 : (Option Addr × Nat × Nat) × (Int) × Unit → World → Prop) : Prop :=
  ∃ (t42 : Addr),
  l_a = some t42 ∧
  0 ≤ (i : Int) ∧
  (i : Int) < ((l_l : Nat) : Int) ∧
  ∃ (t44_a : Option Addr) (t44_l : Nat) (t44_c : Nat),
  w.cell? (t42.add (Int.toNat i * 2)) = some (.slice t44_a t44_l t44_c) ∧
  Calls Try.prog 26 ⟨[(.int .i64 zone), (.slice t44_a t44_l t44_c)]⟩ w fun e w_ =>
    ∃ (t45 : Bool),
    e = .returned (.bool t45) ∧
    cond t45 (
      R (.bool false) w_
    ) (
      S21_k4 l_a l_l l_c who zone x_a x_l x_c i w_ R B1
    )

def S21_k6 (x_a : Option Addr) (x_l : Nat) (x_c : Nat) (w : World) (R : Value → World → Prop) : Prop :=
  Calls Try.prog 15 ⟨[(.slice x_a x_l x_c)]⟩ w fun e w_ =>
    ∃ (t65_0_a : Option Addr) (t65_0_l : Nat) (t65_0_c : Nat) (t65_1 : Bool),
    e = .returned (.tuple ⟨[(.slice t65_0_a t65_0_l t65_0_c), (.bool t65_1)]⟩) ∧
    R (.bool t65_1) w_

def S21_L2 (l_a : Option Addr) (l_l : Nat) (l_c : Nat) (who : Int) (zone : Int) (x_a : Option Addr) (x_l : Nat) (x_c : Nat) (i : Int) (w : World) (R : Value → World → Prop) (B1 : (Option Addr × Nat × Nat) × (Int) × Unit → World → Prop) : Prop :=
  cond (decide ((i : Int) < ((l_l : Nat) : Int))) (
    S21_k3 l_a l_l l_c who zone x_a x_l x_c i w R B1
  ) (
    S21_k6 x_a x_l x_c w R
  )

def S21_k1 (l_a : Option Addr) (l_l : Nat) (l_c : Nat) (who : Int) (zone : Int) (w : World) (R : Value → World → Prop) : Prop :=
  ∃ (I : (Option Addr × Nat × Nat) × (Int) × Unit → World → Prop) (μ : (Option Addr × Nat × Nat) × (Int) × Unit → World → Nat),
  I ((none, 0, 0), 0, ()) w ∧
  ∀ (J : Env) (s : (Option Addr × Nat × Nat) × (Int) × Unit) (w' : World), I s w' →
    S21_L2 l_a l_l l_c who zone s.1.1 s.1.2.1 s.1.2.2 s.2.1 w' R (fun s' w'' => I s' w'' ∧ μ s' w'' < μ s w')

def S21_k0 (l_a : Option Addr) (l_l : Nat) (l_c : Nat) (who : Int) (zone : Int) (t32 : Bool) (w : World) (R : Value → World → Prop) : Prop :=
  cond t32 (
    R (.bool false) w
  ) (
    S21_k1 l_a l_l l_c who zone w R
  )

def S21 (l_a : Option Addr) (l_l : Nat) (l_c : Nat) (who : Int) (zone : Int) (w : World) (R : Value → World → Prop) : Prop :=
  Calls Try.prog 17 ⟨[(.slice l_a l_l l_c)]⟩ w fun e w_ =>
    ∃ (t13 : Bool),
    e = .returned (.bool t13) ∧
    cond (!t13) (
      S21_k0 l_a l_l l_c who zone true w_ R
    ) (
      cond (decide ((who : Int) < 0)) (
        S21_k0 l_a l_l l_c who zone true w_ R
      ) (
        cond (decide ((((l_l : Nat) : Int) : Int) ≤ who)) (
          S21_k0 l_a l_l l_c who zone true w_ R
        ) (
          cond (decide ((zone : Int) < 0)) (
            S21_k0 l_a l_l l_c who zone true w_ R
          ) (
            S21_k0 l_a l_l l_c who zone (decide ((26 : Int) ≤ zone)) w_ R
          )
        )
      )
    )

theorem S21_eq (l_a : Option Addr) (l_l : Nat) (l_c : Nat) (who : Int) (zone : Int) (w : World) (R : Value → World → Prop) : Eng.R Try.prog ⟨cal, S21_nx⟩ 69 S21_ann [] (Try.f21.body.getD .skip) (bodyQ Try.prog #[.tmp 6] R) (argE [(.slice l_a l_l l_c), (.int .i64 who), (.int .i64 zone)]) w = S21 l_a l_l l_c who zone w R := by kernel_rfl
/-- A call of 'carfax/carfaxref08.May', by its condition. -/
theorem S21_calls {l_a : Option Addr} {l_l : Nat} {l_c : Nat} {who : Int} {zone : Int} {w : World} {R : Value → World → Prop} (hS : S21 l_a l_l l_c who zone w R) : Ret Try.prog 21 [(.slice l_a l_l l_c), (.int .i64 who), (.int .i64 zone)] w R :=
  R_calls (C := ⟨cal, S21_nx⟩) cal_ok follows Try.func21 (c := Try.f21.body.getD .skip) (res := #[.tmp 6]) (n := 69) (by kernel_rfl) (by kernel_rfl) (by kernel_rfl) (by kernel_rfl) ((S21_eq l_a l_l l_c who zone w R).mpr hS)

def S22_ann (p : List Nat) : Option LA := match p with
  | [0, 1, 0, 1, 1, 1, 1] => some ⟨[15, 16], [(4, .one .slice), (5, .one (.int .u32)), (17, .one (.int .i64))]⟩
  | _ => none

def S22_nx (t : Nat) : Option (TypeId × TypeId) := none

def S22_k4 (out_a : Option Addr) (out_l : Nat) (out_c : Nat) (held : Int) (hold : Int) (need : Int) (t15_a : Option Addr) (t15_l : Nat) (t15_c : Nat) (t16 : Int) (t17 : Int) (w : World) (R : Value → World → Prop) (B1 : (Option Addr × Nat × Nat) × (Int) × (Int) × Unit → World → Prop) : Prop :=
  ∃ (t53_a : Option Addr) (t53_l : Nat) (t53_c : Nat) (w_ : World),
  (Builtin.append_ #[36, 36] 36 ⟨[(.slice out_a out_l out_c), (.slice (some ⟨w.heap.size, 0, none⟩) 1 1)]⟩).run Try.prog (w.alloc (.cells ⟨[(.int .u32 hold), (.int .u32 need)]⟩ 48)) = .ok (.slice t53_a t53_l t53_c) w_ ∧
  B1 ((t53_a, t53_l, t53_c), (bitsI .or .u32 held hold), (IntKind.i64.wrap (t17 + 1)), ()) w_

def S22_k3 (out_a : Option Addr) (out_l : Nat) (out_c : Nat) (held : Int) (hold : Int) (need : Int) (t15_a : Option Addr) (t15_l : Nat) (t15_c : Nat) (t16 : Int) (t17 : Int) (t44 : Bool) (w : World) (R : Value → World → Prop) (B1 : (Option Addr × Nat × Nat) × (Int) × (Int) × Unit → World → Prop) : Prop :=
  cond t44 (
    R (.tuple ⟨[(.slice none 0 0), (.bool false)]⟩) w
  ) (
    S22_k4 out_a out_l out_c held hold need t15_a t15_l t15_c t16 t17 w R B1
  )

def S22_k2 (out_a : Option Addr) (out_l : Nat) (out_c : Nat) (held : Int) (t15_a : Option Addr) (t15_l : Nat) (t15_c : Nat) (t16 : Int) (t17 : Int) (w : World) (R : Value → World → Prop) (B1 : (Option Addr × Nat × Nat) × (Int) × (Int) × Unit → World → Prop) : Prop :=
  ∃ (t19 : Addr),
  t15_a = some t19 ∧
  0 ≤ (t17 : Int) ∧
  (t17 : Int) < ((t15_l : Nat) : Int) ∧
  ∃ (t20_0_a : Option Addr) (t20_0_l : Nat) (t20_0_c : Nat),
  w.cell? (t19.add (Int.toNat t17 * 2)) = some (.slice t20_0_a t20_0_l t20_0_c) ∧
  ∃ (t20_1_a : Option Addr) (t20_1_l : Nat) (t20_1_c : Nat),
  w.cell? ((t19.add (Int.toNat t17 * 2)).add 1) = some (.slice t20_1_a t20_1_l t20_1_c) ∧
  (∃ u, (w.alloc (.cells ⟨[(.slice none 0 0), (.slice none 0 0)]⟩ 28)).cell? ⟨w.heap.size, 0, none⟩ = some u) ∧
  (w.alloc (.cells ⟨[(.slice none 0 0), (.slice none 0 0)]⟩ 28)).frozen? ⟨w.heap.size, 0, none⟩ = false ∧
  (∃ u, ((w.alloc (.cells ⟨[(.slice none 0 0), (.slice none 0 0)]⟩ 28)).setCell ⟨w.heap.size, 0, none⟩ (.slice t20_0_a t20_0_l t20_0_c)).cell? ⟨w.heap.size, 1, none⟩ = some u) ∧
  ((w.alloc (.cells ⟨[(.slice none 0 0), (.slice none 0 0)]⟩ 28)).setCell ⟨w.heap.size, 0, none⟩ (.slice t20_0_a t20_0_l t20_0_c)).frozen? ⟨w.heap.size, 1, none⟩ = false ∧
  ∃ (t23_a : Option Addr) (t23_l : Nat) (t23_c : Nat),
  (((w.alloc (.cells ⟨[(.slice none 0 0), (.slice none 0 0)]⟩ 28)).setCell ⟨w.heap.size, 0, none⟩ (.slice t20_0_a t20_0_l t20_0_c)).setCell ⟨w.heap.size, 1, none⟩ (.slice t20_1_a t20_1_l t20_1_c)).cell? ⟨w.heap.size, 0, none⟩ = some (.slice t23_a t23_l t23_c) ∧
  Calls Try.prog 29 ⟨[(.slice t23_a t23_l t23_c)]⟩ (((w.alloc (.cells ⟨[(.slice none 0 0), (.slice none 0 0)]⟩ 28)).setCell ⟨w.heap.size, 0, none⟩ (.slice t20_0_a t20_0_l t20_0_c)).setCell ⟨w.heap.size, 1, none⟩ (.slice t20_1_a t20_1_l t20_1_c)) fun e w_ =>
    ∃ (t24_0 : Int) (t24_1 : Bool),
    e = .returned (.tuple ⟨[(.int .u32 t24_0), (.bool t24_1)]⟩) ∧
    ∃ (t29_a : Option Addr) (t29_l : Nat) (t29_c : Nat),
    w_.cell? ⟨w.heap.size, 1, none⟩ = some (.slice t29_a t29_l t29_c) ∧
    Calls Try.prog 29 ⟨[(.slice t29_a t29_l t29_c)]⟩ w_ fun e w__1 =>
      ∃ (t30_0 : Int) (t30_1 : Bool),
      e = .returned (.tuple ⟨[(.int .u32 t30_0), (.bool t30_1)]⟩) ∧
      cond (!t24_1) (
        S22_k3 out_a out_l out_c held t24_0 t30_0 t15_a t15_l t15_c t16 t17 true w__1 R B1
      ) (
        cond (!t30_1) (
          S22_k3 out_a out_l out_c held t24_0 t30_0 t15_a t15_l t15_c t16 t17 true w__1 R B1
        ) (
          S22_k3 out_a out_l out_c held t24_0 t30_0 t15_a t15_l t15_c t16 t17 (!decide (((bitsI .and .u32 held t24_0) : Int) = 0)) w__1 R B1
        )
      )

def S22_L1 (out_a : Option Addr) (out_l : Nat) (out_c : Nat) (held : Int) (t15_a : Option Addr) (t15_l : Nat) (t15_c : Nat) (t16 : Int) (t17 : Int) (w : World) (R : Value → World → Prop) (B1 : (Option Addr × Nat × Nat) × (Int) × (Int) × Unit → World → Prop) : Prop :=
  cond (decide ((t17 : Int) < t16)) (
    S22_k2 out_a out_l out_c held t15_a t15_l t15_c t16 t17 w R B1
  ) (
    R (.tuple ⟨[(.slice out_a out_l out_c), (.bool true)]⟩) w
  )

def S22_k0 (l_a : Option Addr) (l_l : Nat) (l_c : Nat) (w : World) (R : Value → World → Prop) : Prop :=
  ∃ (I : (Option Addr × Nat × Nat) × (Int) × (Int) × Unit → World → Prop) (μ : (Option Addr × Nat × Nat) × (Int) × (Int) × Unit → World → Nat),
  I ((none, 0, 0), 0, 0, ()) w ∧
  ∀ (J : Env) (s : (Option Addr × Nat × Nat) × (Int) × (Int) × Unit) (w' : World), I s w' →
    S22_L1 s.1.1 s.1.2.1 s.1.2.2 s.2.1 l_a l_l l_c ((l_l : Nat) : Int) s.2.2.1 w' R (fun s' w'' => I s' w'' ∧ μ s' w'' < μ s w')

def S22 (l_a : Option Addr) (l_l : Nat) (l_c : Nat) (w : World) (R : Value → World → Prop) : Prop :=
  cond (decide ((8 : Int) < ((l_l : Nat) : Int))) (
    R (.tuple ⟨[(.slice none 0 0), (.bool false)]⟩) w
  ) (
    S22_k0 l_a l_l l_c w R
  )

theorem S22_eq (l_a : Option Addr) (l_l : Nat) (l_c : Nat) (w : World) (R : Value → World → Prop) : Eng.R Try.prog ⟨cal, S22_nx⟩ 56 S22_ann [] (Try.f22.body.getD .skip) (bodyQ Try.prog #[.tmp 2, .tmp 3] R) (argE [(.slice l_a l_l l_c)]) w = S22 l_a l_l l_c w R := by kernel_rfl
/-- A call of 'carfax/banker.sides', by its condition. -/
theorem S22_calls {l_a : Option Addr} {l_l : Nat} {l_c : Nat} {w : World} {R : Value → World → Prop} (hS : S22 l_a l_l l_c w R) : Ret Try.prog 22 [(.slice l_a l_l l_c)] w R :=
  R_calls (C := ⟨cal, S22_nx⟩) cal_ok follows Try.func22 (c := Try.f22.body.getD .skip) (res := #[.tmp 2, .tmp 3]) (n := 56) (by kernel_rfl) (by kernel_rfl) (by kernel_rfl) (by kernel_rfl) ((S22_eq l_a l_l l_c w R).mpr hS)

def S23_ann (p : List Nat) : Option LA := match p with
  | [0, 0, 1, 1, 0, 1] => some ⟨[0], [(4, .one .slice)]⟩
  | [0, 1, 0, 0, 1, 0, 0, 0, 1, 1, 0, 1] => some ⟨[0, 15, 16], [(4, .one .slice), (17, .one (.int .i64))]⟩
  | _ => none

def S23_nx (t : Nat) : Option (TypeId × TypeId) := none

def S23_k4 (l_a : Option Addr) (l_l : Nat) (l_c : Nat) (out_a : Option Addr) (out_l : Nat) (out_c : Nat) (i : Int) (t15_a : Option Addr) (t15_l : Nat) (t15_c : Nat) (t16 : Int) (t17 : Int) (t35 : Bool) (w : World) (R : Value → World → Prop) (B1 : (Option Addr × Nat × Nat) × Unit → World → Prop) (B2 : (Option Addr × Nat × Nat) × (Int) × Unit → World → Prop) : Prop :=
  cond t35 (
    ∃ (t39_a : Option Addr) (t39_l : Nat) (t39_c : Nat) (w_ : World),
    (Builtin.append_ #[26, 26] 26 ⟨[(.slice out_a out_l out_c), (.slice (some ⟨w.heap.size, 0, none⟩) 1 1)]⟩).run Try.prog (w.alloc (.cells ⟨[(.int .i64 i)]⟩ 3)) = .ok (.slice t39_a t39_l t39_c) w_ ∧
    B1 ((t39_a, t39_l, t39_c), ()) w_
  ) (
    B2 ((out_a, out_l, out_c), (IntKind.i64.wrap (t17 + 1)), ()) w
  )

def S23_k3 (l_a : Option Addr) (l_l : Nat) (l_c : Nat) (out_a : Option Addr) (out_l : Nat) (out_c : Nat) (t15_a : Option Addr) (t15_l : Nat) (t15_c : Nat) (t16 : Int) (t17 : Int) (w : World) (R : Value → World → Prop) (B1 : (Option Addr × Nat × Nat) × Unit → World → Prop) (B2 : (Option Addr × Nat × Nat) × (Int) × Unit → World → Prop) : Prop :=
  ∃ (t20 : Addr),
  t15_a = some t20 ∧
  0 ≤ (t17 : Int) ∧
  (t17 : Int) < ((t15_l : Nat) : Int) ∧
  ∃ (t21_0 : Int),
  w.cell? (t20.add (Int.toNat t17 * 2)) = some (.int .u32 t21_0) ∧
  ∃ (t21_1 : Int),
  w.cell? ((t20.add (Int.toNat t17 * 2)).add 1) = some (.int .u32 t21_1) ∧
  (∃ u, (w.alloc (.cells ⟨[(.int .u32 0), (.int .u32 0)]⟩ 48)).cell? ⟨w.heap.size, 0, none⟩ = some u) ∧
  (w.alloc (.cells ⟨[(.int .u32 0), (.int .u32 0)]⟩ 48)).frozen? ⟨w.heap.size, 0, none⟩ = false ∧
  (∃ u, ((w.alloc (.cells ⟨[(.int .u32 0), (.int .u32 0)]⟩ 48)).setCell ⟨w.heap.size, 0, none⟩ (.int .u32 t21_0)).cell? ⟨w.heap.size, 1, none⟩ = some u) ∧
  ((w.alloc (.cells ⟨[(.int .u32 0), (.int .u32 0)]⟩ 48)).setCell ⟨w.heap.size, 0, none⟩ (.int .u32 t21_0)).frozen? ⟨w.heap.size, 1, none⟩ = false ∧
  Calls Try.prog 30 ⟨[(.slice out_a out_l out_c), (.int .i64 t17)]⟩ (((w.alloc (.cells ⟨[(.int .u32 0), (.int .u32 0)]⟩ 48)).setCell ⟨w.heap.size, 0, none⟩ (.int .u32 t21_0)).setCell ⟨w.heap.size, 1, none⟩ (.int .u32 t21_1)).drew fun e w_ =>
    ∃ (t24 : Bool),
    e = .returned (.bool t24) ∧
    cond (!t24) (
      (
        Calls Try.prog 31 ⟨[(.slice l_a l_l l_c), (.slice out_a out_l out_c), (.int .i64 t17)]⟩ w_ fun e w__1 =>
          ∃ (t30 : Int),
          e = .returned (.int .u32 t30) ∧
          ∃ (t32 : Int),
          w__1.cell? ⟨w.heap.size, 1, none⟩ = some (.int .u32 t32) ∧
          S23_k4 l_a l_l l_c out_a out_l out_c t17 t15_a t15_l t15_c t16 t17 (decide (((bitsI .and .u32 t30 t32) : Int) = 0)) w__1 R B1 B2
      ) ∧
      (
        ∃ (t32_1 : Int),
        w_.cell? ⟨w.heap.size, 1, none⟩ = some (.int .u32 t32_1) ∧
        Calls Try.prog 31 ⟨[(.slice l_a l_l l_c), (.slice out_a out_l out_c), (.int .i64 t17)]⟩ w_ fun e w__2 =>
          ∃ (t30_1 : Int),
          e = .returned (.int .u32 t30_1) ∧
          S23_k4 l_a l_l l_c out_a out_l out_c t17 t15_a t15_l t15_c t16 t17 (decide (((bitsI .and .u32 t30_1 t32_1) : Int) = 0)) w__2 R B1 B2
      )
    ) (
      (
        S23_k4 l_a l_l l_c out_a out_l out_c t17 t15_a t15_l t15_c t16 t17 false w_ R B1 B2
      ) ∧
      (
        S23_k4 l_a l_l l_c out_a out_l out_c t17 t15_a t15_l t15_c t16 t17 false w_ R B1 B2
      )
    )

def S23_L2 (l_a : Option Addr) (l_l : Nat) (l_c : Nat) (out_a : Option Addr) (out_l : Nat) (out_c : Nat) (t15_a : Option Addr) (t15_l : Nat) (t15_c : Nat) (t16 : Int) (t17 : Int) (w : World) (R : Value → World → Prop) (B1 : (Option Addr × Nat × Nat) × Unit → World → Prop) (B2 : (Option Addr × Nat × Nat) × (Int) × Unit → World → Prop) : Prop :=
  cond (decide ((t17 : Int) < t16)) (
    S23_k3 l_a l_l l_c out_a out_l out_c t15_a t15_l t15_c t16 t17 w R B1 B2
  ) (
    R (.tuple ⟨[(.slice none 0 0), (.bool false)]⟩) w
  )

def S23_k1 (l_a : Option Addr) (l_l : Nat) (l_c : Nat) (out_a : Option Addr) (out_l : Nat) (out_c : Nat) (w : World) (R : Value → World → Prop) (B1 : (Option Addr × Nat × Nat) × Unit → World → Prop) : Prop :=
  ∃ (I : (Option Addr × Nat × Nat) × (Int) × Unit → World → Prop) (μ : (Option Addr × Nat × Nat) × (Int) × Unit → World → Nat),
  I ((out_a, out_l, out_c), 0, ()) w ∧
  ∀ (J : Env) (s : (Option Addr × Nat × Nat) × (Int) × Unit) (w' : World), I s w' →
    S23_L2 l_a l_l l_c s.1.1 s.1.2.1 s.1.2.2 l_a l_l l_c ((l_l : Nat) : Int) s.2.1 w' R B1 (fun s' w'' => I s' w'' ∧ μ s' w'' < μ s w')

def S23_L0 (l_a : Option Addr) (l_l : Nat) (l_c : Nat) (out_a : Option Addr) (out_l : Nat) (out_c : Nat) (w : World) (R : Value → World → Prop) (B1 : (Option Addr × Nat × Nat) × Unit → World → Prop) : Prop :=
  cond (decide ((((out_l : Nat) : Int) : Int) < ((l_l : Nat) : Int))) (
    S23_k1 l_a l_l l_c out_a out_l out_c w R B1
  ) (
    R (.tuple ⟨[(.slice out_a out_l out_c), (.bool true)]⟩) w
  )

def S23 (l_a : Option Addr) (l_l : Nat) (l_c : Nat) (w : World) (R : Value → World → Prop) : Prop :=
  ∃ (t9_a : Option Addr) (t9_l : Nat) (t9_c : Nat) (w_ : World),
  (Instr.makeSlice 26 (.int .i64 0) (.int .i64 ((l_l : Nat) : Int))).run Try.prog w = .ok (.slice t9_a t9_l t9_c) w_ ∧
  ∃ (I : (Option Addr × Nat × Nat) × Unit → World → Prop) (μ : (Option Addr × Nat × Nat) × Unit → World → Nat),
  I ((t9_a, t9_l, t9_c), ()) w_ ∧
  ∀ (J : Env) (s : (Option Addr × Nat × Nat) × Unit) (w' : World), I s w' →
    S23_L0 l_a l_l l_c s.1.1 s.1.2.1 s.1.2.2 w' R (fun s' w'' => I s' w'' ∧ μ s' w'' < μ s w')

theorem S23_eq (l_a : Option Addr) (l_l : Nat) (l_c : Nat) (w : World) (R : Value → World → Prop) : Eng.R Try.prog ⟨cal, S23_nx⟩ 42 S23_ann [] (Try.f23.body.getD .skip) (bodyQ Try.prog #[.tmp 2, .tmp 3] R) (argE [(.slice l_a l_l l_c)]) w = S23 l_a l_l l_c w R := by kernel_rfl
/-- A call of 'carfax/banker.order', by its condition. -/
theorem S23_calls {l_a : Option Addr} {l_l : Nat} {l_c : Nat} {w : World} {R : Value → World → Prop} (hS : S23 l_a l_l l_c w R) : Ret Try.prog 23 [(.slice l_a l_l l_c)] w R :=
  R_calls (C := ⟨cal, S23_nx⟩) cal_ok follows Try.func23 (c := Try.f23.body.getD .skip) (res := #[.tmp 2, .tmp 3]) (n := 42) (by kernel_rfl) (by kernel_rfl) (by kernel_rfl) (by kernel_rfl) ((S23_eq l_a l_l l_c w R).mpr hS)

def S24_ann (p : List Nat) : Option LA := match p with
  | [0, 1, 0, 1, 1] => some ⟨[0, 1, 2], [(8, .one (.int .i64))]⟩
  | _ => none

def S24_nx (t : Nat) : Option (TypeId × TypeId) := none

def S24_k4 (l_a : Option Addr) (l_l : Nat) (l_c : Nat) (left_a : Option Addr) (left_l : Nat) (left_c : Nat) (many : Int) (i : Int) (w : World) (R : Value → World → Prop) (B1 : (Int) × Unit → World → Prop) : Prop :=
  ∃ (t34_a : Option Addr) (t34_l : Nat) (t34_c : Nat) (w_ : World),
  (Builtin.append_ #[40, 40] 40 ⟨[(.slice (some ⟨w.heap.size, 0, none⟩) 0 0), (.slice left_a left_l left_c)]⟩).run Try.prog (w.alloc (.cells ⟨[]⟩ 4)) = .ok (.slice t34_a t34_l t34_c) w_ ∧
  ∃ (t37 : Addr),
  t34_a = some t37 ∧
  0 ≤ (i : Int) ∧
  (i : Int) < ((t34_l : Nat) : Int) ∧
  (∃ u, w_.cell? (t37.add (Int.toNat i * 1)) = some u) ∧
  w_.frozen? (t37.add (Int.toNat i * 1)) = false ∧
  Calls Try.prog 24 ⟨[(.slice l_a l_l l_c), (.slice t34_a t34_l t34_c), (.int .i64 (IntKind.i64.wrap (many - 1)))]⟩ (w_.setCell (t37.add (Int.toNat i * 1)) (.bool false)) fun e w__1 =>
    ∃ (t43_0_a : Option Addr) (t43_0_l : Nat) (t43_0_c : Nat) (t43_1 : Bool),
    e = .returned (.tuple ⟨[(.slice t43_0_a t43_0_l t43_0_c), (.bool t43_1)]⟩) ∧
    cond t43_1 (
      ∃ (t50_a : Option Addr) (t50_l : Nat) (t50_c : Nat) (w__2 : World),
      (Builtin.append_ #[26, 26] 26 ⟨[(.slice (some ⟨w__1.heap.size, 0, none⟩) 1 1), (.slice t43_0_a t43_0_l t43_0_c)]⟩).run Try.prog (w__1.alloc (.cells ⟨[(.int .i64 i)]⟩ 3)) = .ok (.slice t50_a t50_l t50_c) w__2 ∧
      R (.tuple ⟨[(.slice t50_a t50_l t50_c), (.bool true)]⟩) w__2
    ) (
      B1 ((IntKind.i64.wrap (i + 1)), ()) w__1
    )

def S24_k3 (l_a : Option Addr) (l_l : Nat) (l_c : Nat) (left_a : Option Addr) (left_l : Nat) (left_c : Nat) (many : Int) (i : Int) (t31 : Bool) (w : World) (R : Value → World → Prop) (B1 : (Int) × Unit → World → Prop) : Prop :=
  cond t31 (
    B1 ((IntKind.i64.wrap (i + 1)), ()) w
  ) (
    S24_k4 l_a l_l l_c left_a left_l left_c many i w R B1
  )

def S24_k2 (l_a : Option Addr) (l_l : Nat) (l_c : Nat) (left_a : Option Addr) (left_l : Nat) (left_c : Nat) (many : Int) (i : Int) (w : World) (R : Value → World → Prop) (B1 : (Int) × Unit → World → Prop) : Prop :=
  ∃ (t22 : Addr),
  left_a = some t22 ∧
  0 ≤ (i : Int) ∧
  (i : Int) < ((left_l : Nat) : Int) ∧
  ∃ (t23 : Bool),
  w.cell? (t22.add (Int.toNat i * 1)) = some (.bool t23) ∧
  cond (!t23) (
    S24_k3 l_a l_l l_c left_a left_l left_c many i true w R B1
  ) (
    Calls Try.prog 32 ⟨[(.slice l_a l_l l_c), (.int .i64 i), (.slice left_a left_l left_c)]⟩ w fun e w_ =>
      ∃ (t29 : Bool),
      e = .returned (.bool t29) ∧
      S24_k3 l_a l_l l_c left_a left_l left_c many i (!t29) w_ R B1
  )

def S24_L1 (l_a : Option Addr) (l_l : Nat) (l_c : Nat) (left_a : Option Addr) (left_l : Nat) (left_c : Nat) (many : Int) (i : Int) (w : World) (R : Value → World → Prop) (B1 : (Int) × Unit → World → Prop) : Prop :=
  cond (decide ((i : Int) < ((l_l : Nat) : Int))) (
    S24_k2 l_a l_l l_c left_a left_l left_c many i w R B1
  ) (
    R (.tuple ⟨[(.slice none 0 0), (.bool false)]⟩) w
  )

def S24_k0 (l_a : Option Addr) (l_l : Nat) (l_c : Nat) (left_a : Option Addr) (left_l : Nat) (left_c : Nat) (many : Int) (w : World) (R : Value → World → Prop) : Prop :=
  ∃ (I : (Int) × Unit → World → Prop) (μ : (Int) × Unit → World → Nat),
  I (0, ()) w ∧
  ∀ (J : Env) (s : (Int) × Unit) (w' : World), I s w' →
    S24_L1 l_a l_l l_c left_a left_l left_c many s.1 w' R (fun s' w'' => I s' w'' ∧ μ s' w'' < μ s w')

def S24 (l_a : Option Addr) (l_l : Nat) (l_c : Nat) (left_a : Option Addr) (left_l : Nat) (left_c : Nat) (many : Int) (w : World) (R : Value → World → Prop) : Prop :=
  cond (decide ((many : Int) = 0)) (
    R (.tuple ⟨[(.slice none 0 0), (.bool true)]⟩) w
  ) (
    S24_k0 l_a l_l l_c left_a left_l left_c many w R
  )

theorem S24_eq (l_a : Option Addr) (l_l : Nat) (l_c : Nat) (left_a : Option Addr) (left_l : Nat) (left_c : Nat) (many : Int) (w : World) (R : Value → World → Prop) : Eng.R Try.prog ⟨cal, S24_nx⟩ 51 S24_ann [] (Try.f24.body.getD .skip) (bodyQ Try.prog #[.tmp 6, .tmp 7] R) (argE [(.slice l_a l_l l_c), (.slice left_a left_l left_c), (.int .i64 many)]) w = S24 l_a l_l l_c left_a left_l left_c many w R := by kernel_rfl
/-- A call of 'carfax/carfaxref08.order', by its condition. -/
theorem S24_calls {l_a : Option Addr} {l_l : Nat} {l_c : Nat} {left_a : Option Addr} {left_l : Nat} {left_c : Nat} {many : Int} {w : World} {R : Value → World → Prop} (hS : S24 l_a l_l l_c left_a left_l left_c many w R) : Ret Try.prog 24 [(.slice l_a l_l l_c), (.slice left_a left_l left_c), (.int .i64 many)] w R :=
  R_calls (C := ⟨cal, S24_nx⟩) cal_ok follows Try.func24 (c := Try.f24.body.getD .skip) (res := #[.tmp 6, .tmp 7]) (n := 51) (by kernel_rfl) (by kernel_rfl) (by kernel_rfl) (by kernel_rfl) ((S24_eq l_a l_l l_c left_a left_l left_c many w R).mpr hS)

def S25_ann (p : List Nat) : Option LA := match p with
  | [0, 1, 0, 1] => some ⟨[0], [(3, .one (.int .i64))]⟩
  | _ => none

def S25_nx (t : Nat) : Option (TypeId × TypeId) := none

def S25_k2 (l_a : Option Addr) (l_l : Nat) (l_c : Nat) (i : Int) (t21 : Bool) (w : World) (R : Value → World → Prop) (B1 : (Int) × Unit → World → Prop) : Prop :=
  cond t21 (
    R (.bool false) w
  ) (
    B1 ((IntKind.i64.wrap (i + 1)), ()) w
  )

def S25_k1 (l_a : Option Addr) (l_l : Nat) (l_c : Nat) (i : Int) (w : World) (R : Value → World → Prop) (B1 : (Int) × Unit → World → Prop) : Prop :=
  ∃ (t12 : Addr),
  l_a = some t12 ∧
  0 ≤ (i : Int) ∧
  (i : Int) < ((l_l : Nat) : Int) ∧
  ∃ (t13 : Int),
  w.cell? (t12.add (Int.toNat i * 1)) = some (.int .i64 t13) ∧
  cond (decide ((t13 : Int) < 0)) (
    S25_k2 l_a l_l l_c i true w R B1
  ) (
    ∃ (t18 : Addr),
    l_a = some t18 ∧
    0 ≤ (i : Int) ∧
    (i : Int) < ((l_l : Nat) : Int) ∧
    ∃ (t19 : Int),
    w.cell? (t18.add (Int.toNat i * 1)) = some (.int .i64 t19) ∧
    S25_k2 l_a l_l l_c i (decide ((26 : Int) ≤ t19)) w R B1
  )

def S25_L0 (l_a : Option Addr) (l_l : Nat) (l_c : Nat) (i : Int) (w : World) (R : Value → World → Prop) (B1 : (Int) × Unit → World → Prop) : Prop :=
  cond (decide ((i : Int) < ((l_l : Nat) : Int))) (
    S25_k1 l_a l_l l_c i w R B1
  ) (
    R (.bool true) w
  )

def S25 (l_a : Option Addr) (l_l : Nat) (l_c : Nat) (w : World) (R : Value → World → Prop) : Prop :=
  ∃ (I : (Int) × Unit → World → Prop) (μ : (Int) × Unit → World → Nat),
  I (0, ()) w ∧
  ∀ (J : Env) (s : (Int) × Unit) (w' : World), I s w' →
    S25_L0 l_a l_l l_c s.1 w' R (fun s' w'' => I s' w'' ∧ μ s' w'' < μ s w')

theorem S25_eq (l_a : Option Addr) (l_l : Nat) (l_c : Nat) (w : World) (R : Value → World → Prop) : Eng.R Try.prog ⟨cal, S25_nx⟩ 22 S25_ann [] (Try.f25.body.getD .skip) (bodyQ Try.prog #[.tmp 2] R) (argE [(.slice l_a l_l l_c)]) w = S25 l_a l_l l_c w R := by kernel_rfl
/-- A call of 'carfax/carfaxref08.zones', by its condition. -/
theorem S25_calls {l_a : Option Addr} {l_l : Nat} {l_c : Nat} {w : World} {R : Value → World → Prop} (hS : S25 l_a l_l l_c w R) : Ret Try.prog 25 [(.slice l_a l_l l_c)] w R :=
  R_calls (C := ⟨cal, S25_nx⟩) cal_ok follows Try.func25 (c := Try.f25.body.getD .skip) (res := #[.tmp 2]) (n := 22) (by kernel_rfl) (by kernel_rfl) (by kernel_rfl) (by kernel_rfl) ((S25_eq l_a l_l l_c w R).mpr hS)

def S26_ann (p : List Nat) : Option LA := match p with
  | [0, 1, 0, 1] => some ⟨[0, 1], [(5, .one (.int .i64))]⟩
  | _ => none

def S26_nx (t : Nat) : Option (TypeId × TypeId) := none

def S26_k1 (n_ : Int) (l_a : Option Addr) (l_l : Nat) (l_c : Nat) (i : Int) (w : World) (R : Value → World → Prop) (B1 : (Int) × Unit → World → Prop) : Prop :=
  ∃ (t14 : Addr),
  l_a = some t14 ∧
  0 ≤ (i : Int) ∧
  (i : Int) < ((l_l : Nat) : Int) ∧
  ∃ (t15 : Int),
  w.cell? (t14.add (Int.toNat i * 1)) = some (.int .i64 t15) ∧
  cond (decide ((t15 : Int) = n_)) (
    R (.bool true) w
  ) (
    B1 ((IntKind.i64.wrap (i + 1)), ()) w
  )

def S26_L0 (n_ : Int) (l_a : Option Addr) (l_l : Nat) (l_c : Nat) (i : Int) (w : World) (R : Value → World → Prop) (B1 : (Int) × Unit → World → Prop) : Prop :=
  cond (decide ((i : Int) < ((l_l : Nat) : Int))) (
    S26_k1 n_ l_a l_l l_c i w R B1
  ) (
    R (.bool false) w
  )

def S26 (n_ : Int) (l_a : Option Addr) (l_l : Nat) (l_c : Nat) (w : World) (R : Value → World → Prop) : Prop :=
  ∃ (I : (Int) × Unit → World → Prop) (μ : (Int) × Unit → World → Nat),
  I (0, ()) w ∧
  ∀ (J : Env) (s : (Int) × Unit) (w' : World), I s w' →
    S26_L0 n_ l_a l_l l_c s.1 w' R (fun s' w'' => I s' w'' ∧ μ s' w'' < μ s w')

theorem S26_eq (n_ : Int) (l_a : Option Addr) (l_l : Nat) (l_c : Nat) (w : World) (R : Value → World → Prop) : Eng.R Try.prog ⟨cal, S26_nx⟩ 18 S26_ann [] (Try.f26.body.getD .skip) (bodyQ Try.prog #[.tmp 4] R) (argE [(.int .i64 n_), (.slice l_a l_l l_c)]) w = S26 n_ l_a l_l l_c w R := by kernel_rfl
/-- A call of 'carfax/carfaxref08.in', by its condition. -/
theorem S26_calls {n_ : Int} {l_a : Option Addr} {l_l : Nat} {l_c : Nat} {w : World} {R : Value → World → Prop} (hS : S26 n_ l_a l_l l_c w R) : Ret Try.prog 26 [(.int .i64 n_), (.slice l_a l_l l_c)] w R :=
  R_calls (C := ⟨cal, S26_nx⟩) cal_ok follows Try.func26 (c := Try.f26.body.getD .skip) (res := #[.tmp 4]) (n := 18) (by kernel_rfl) (by kernel_rfl) (by kernel_rfl) (by kernel_rfl) ((S26_eq n_ l_a l_l l_c w R).mpr hS)

def S27_ann (p : List Nat) : Option LA :=
  none

def S27_nx (t : Nat) : Option (TypeId × TypeId) := none

def S27 (s_a : Option Addr) (s_l : Nat) (s_c : Nat) (f : Value) (w : World) (R : Value → World → Prop) : Prop :=
  Calls Try.prog 33 ⟨[(.slice s_a s_l s_c), f]⟩ w fun e w_ =>
    ∃ (t7 : Int),
    e = .returned (.int .i64 t7) ∧
    R (.bool (decide ((0 : Int) ≤ t7))) w_

theorem S27_eq (s_a : Option Addr) (s_l : Nat) (s_c : Nat) (f : Value) (w : World) (R : Value → World → Prop) : Eng.R Try.prog ⟨cal, S27_nx⟩ 9 S27_ann [] (Try.f27.body.getD .skip) (bodyQ Try.prog #[.tmp 4] R) (argE [(.slice s_a s_l s_c), f]) w = S27 s_a s_l s_c f w R := by kernel_rfl
/-- A call of 'slices.ContainsFunc[[]carfax/banker.side,carfax/banker.side]', by its condition. -/
theorem S27_calls {s_a : Option Addr} {s_l : Nat} {s_c : Nat} {f : Value} {w : World} {R : Value → World → Prop} (hS : S27 s_a s_l s_c f w R) : Ret Try.prog 27 [(.slice s_a s_l s_c), f] w R :=
  R_calls (C := ⟨cal, S27_nx⟩) cal_ok follows Try.func27 (c := Try.f27.body.getD .skip) (res := #[.tmp 4]) (n := 9) (by kernel_rfl) (by kernel_rfl) (by kernel_rfl) (by kernel_rfl) ((S27_eq s_a s_l s_c f w R).mpr hS)

def S28_ann (p : List Nat) : Option LA :=
  none

def S28_nx (t : Nat) : Option (TypeId × TypeId) := none

def S28 (x_0 : Int) (x_1 : Int) (cap : Addr) (w : World) (R : Value → World → Prop) : Prop :=
  ∃ (t5 : Int),
  (w.alloc (.cells ⟨[(.int .u32 x_0), (.int .u32 x_1)]⟩ 48)).cell? ⟨w.heap.size, 0, none⟩ = some (.int .u32 t5) ∧
  ∃ (t6 : Int),
  (w.alloc (.cells ⟨[(.int .u32 x_0), (.int .u32 x_1)]⟩ 48)).cell? cap = some (.int .u32 t6) ∧
  R (.bool (!decide (((bitsI .and .u32 t5 t6) : Int) = 0))) (w.alloc (.cells ⟨[(.int .u32 x_0), (.int .u32 x_1)]⟩ 48))

theorem S28_eq (x_0 : Int) (x_1 : Int) (cap : Addr) (w : World) (R : Value → World → Prop) : Eng.R Try.prog ⟨cal, S28_nx⟩ 9 S28_ann [] (Try.f28.body.getD .skip) (bodyQ Try.prog #[.tmp 3] R) (argE [(.agg ⟨[(.int .u32 x_0), (.int .u32 x_1)]⟩), (.pointer (some cap))]) w = S28 x_0 x_1 cap w R := by kernel_rfl
/-- A call of 'carfax/banker.May$1', by its condition. -/
theorem S28_calls {x_0 : Int} {x_1 : Int} {cap : Addr} {w : World} {R : Value → World → Prop} (hS : S28 x_0 x_1 cap w R) : Ret Try.prog 28 [(.agg ⟨[(.int .u32 x_0), (.int .u32 x_1)]⟩), (.pointer (some cap))] w R :=
  R_calls (C := ⟨cal, S28_nx⟩) cal_ok follows Try.func28 (c := Try.f28.body.getD .skip) (res := #[.tmp 3]) (n := 9) (by kernel_rfl) (by kernel_rfl) (by kernel_rfl) (by kernel_rfl) ((S28_eq x_0 x_1 cap w R).mpr hS)

def S29_ann (p : List Nat) : Option LA := match p with
  | [0, 1, 0, 1, 1] => some ⟨[7, 8], [(4, .one (.int .u32)), (9, .one (.int .i64))]⟩
  | _ => none

def S29_nx (t : Nat) : Option (TypeId × TypeId) := none

def S29_k3 (s_ : Int) (z : Int) (t7_a : Option Addr) (t7_l : Nat) (t7_c : Nat) (t8 : Int) (t9 : Int) (w : World) (R : Value → World → Prop) (B1 : (Int) × (Int) × Unit → World → Prop) : Prop :=
  0 ≤ (z : Int) ∧
  B1 ((bitsI .or .u32 s_ (IntKind.u32.wrap (1 * 2 ^ (min (Int.toNat z) (IntKind.u32.bits))))), (IntKind.i64.wrap (t9 + 1)), ()) w

def S29_k2 (s_ : Int) (z : Int) (t7_a : Option Addr) (t7_l : Nat) (t7_c : Nat) (t8 : Int) (t9 : Int) (t18 : Bool) (w : World) (R : Value → World → Prop) (B1 : (Int) × (Int) × Unit → World → Prop) : Prop :=
  cond t18 (
    R (.tuple ⟨[(.int .u32 0), (.bool false)]⟩) w
  ) (
    S29_k3 s_ z t7_a t7_l t7_c t8 t9 w R B1
  )

def S29_k1 (s_ : Int) (t7_a : Option Addr) (t7_l : Nat) (t7_c : Nat) (t8 : Int) (t9 : Int) (w : World) (R : Value → World → Prop) (B1 : (Int) × (Int) × Unit → World → Prop) : Prop :=
  ∃ (t11 : Addr),
  t7_a = some t11 ∧
  0 ≤ (t9 : Int) ∧
  (t9 : Int) < ((t7_l : Nat) : Int) ∧
  ∃ (t12 : Int),
  w.cell? (t11.add (Int.toNat t9 * 1)) = some (.int .i64 t12) ∧
  cond (decide ((t12 : Int) < 0)) (
    S29_k2 s_ t12 t7_a t7_l t7_c t8 t9 true w R B1
  ) (
    S29_k2 s_ t12 t7_a t7_l t7_c t8 t9 (decide ((26 : Int) ≤ t12)) w R B1
  )

def S29_L0 (s_ : Int) (t7_a : Option Addr) (t7_l : Nat) (t7_c : Nat) (t8 : Int) (t9 : Int) (w : World) (R : Value → World → Prop) (B1 : (Int) × (Int) × Unit → World → Prop) : Prop :=
  cond (decide ((t9 : Int) < t8)) (
    S29_k1 s_ t7_a t7_l t7_c t8 t9 w R B1
  ) (
    R (.tuple ⟨[(.int .u32 s_), (.bool true)]⟩) w
  )

def S29 (l_a : Option Addr) (l_l : Nat) (l_c : Nat) (w : World) (R : Value → World → Prop) : Prop :=
  ∃ (I : (Int) × (Int) × Unit → World → Prop) (μ : (Int) × (Int) × Unit → World → Nat),
  I (0, 0, ()) w ∧
  ∀ (J : Env) (s : (Int) × (Int) × Unit) (w' : World), I s w' →
    S29_L0 s.1 l_a l_l l_c ((l_l : Nat) : Int) s.2.1 w' R (fun s' w'' => I s' w'' ∧ μ s' w'' < μ s w')

theorem S29_eq (l_a : Option Addr) (l_l : Nat) (l_c : Nat) (w : World) (R : Value → World → Prop) : Eng.R Try.prog ⟨cal, S29_nx⟩ 25 S29_ann [] (Try.f29.body.getD .skip) (bodyQ Try.prog #[.tmp 2, .tmp 3] R) (argE [(.slice l_a l_l l_c)]) w = S29 l_a l_l l_c w R := by kernel_rfl
/-- A call of 'carfax/banker.of', by its condition. -/
theorem S29_calls {l_a : Option Addr} {l_l : Nat} {l_c : Nat} {w : World} {R : Value → World → Prop} (hS : S29 l_a l_l l_c w R) : Ret Try.prog 29 [(.slice l_a l_l l_c)] w R :=
  R_calls (C := ⟨cal, S29_nx⟩) cal_ok follows Try.func29 (c := Try.f29.body.getD .skip) (res := #[.tmp 2, .tmp 3]) (n := 25) (by kernel_rfl) (by kernel_rfl) (by kernel_rfl) (by kernel_rfl) ((S29_eq l_a l_l l_c w R).mpr hS)

def S30_ann (p : List Nat) : Option LA :=
  none

def S30_nx (t : Nat) : Option (TypeId × TypeId) := none

def S30 (s_a : Option Addr) (s_l : Nat) (s_c : Nat) (v : Int) (w : World) (R : Value → World → Prop) : Prop :=
  Calls Try.prog 34 ⟨[(.slice s_a s_l s_c), (.int .i64 v)]⟩ w fun e w_ =>
    ∃ (t7 : Int),
    e = .returned (.int .i64 t7) ∧
    R (.bool (decide ((0 : Int) ≤ t7))) w_

theorem S30_eq (s_a : Option Addr) (s_l : Nat) (s_c : Nat) (v : Int) (w : World) (R : Value → World → Prop) : Eng.R Try.prog ⟨cal, S30_nx⟩ 9 S30_ann [] (Try.f30.body.getD .skip) (bodyQ Try.prog #[.tmp 4] R) (argE [(.slice s_a s_l s_c), (.int .i64 v)]) w = S30 s_a s_l s_c v w R := by kernel_rfl
/-- A call of 'slices.Contains[[]int,int]', by its condition. -/
theorem S30_calls {s_a : Option Addr} {s_l : Nat} {s_c : Nat} {v : Int} {w : World} {R : Value → World → Prop} (hS : S30 s_a s_l s_c v w R) : Ret Try.prog 30 [(.slice s_a s_l s_c), (.int .i64 v)] w R :=
  R_calls (C := ⟨cal, S30_nx⟩) cal_ok follows Try.func30 (c := Try.f30.body.getD .skip) (res := #[.tmp 4]) (n := 9) (by kernel_rfl) (by kernel_rfl) (by kernel_rfl) (by kernel_rfl) ((S30_eq s_a s_l s_c v w R).mpr hS)

def S31_ann (p : List Nat) : Option LA := match p with
  | [0, 1, 0, 1, 1] => some ⟨[1, 2, 10, 11], [(7, .one (.int .u32)), (12, .one (.int .i64))]⟩
  | _ => none

def S31_nx (t : Nat) : Option (TypeId × TypeId) := none

def S31_k2 (done_a : Option Addr) (done_l : Nat) (done_c : Nat) (but : Int) (s_ : Int) (x : Addr) (t10_a : Option Addr) (t10_l : Nat) (t10_c : Nat) (t11 : Int) (t12 : Int) (t25 : Bool) (w : World) (R : Value → World → Prop) (B1 : (Int) × (Int) × Unit → World → Prop) : Prop :=
  cond t25 (
    ∃ (t28 : Int),
    w.cell? x = some (.int .u32 t28) ∧
    B1 ((bitsI .or .u32 s_ t28), (IntKind.i64.wrap (t12 + 1)), ()) w
  ) (
    B1 (s_, (IntKind.i64.wrap (t12 + 1)), ()) w
  )

def S31_k1 (done_a : Option Addr) (done_l : Nat) (done_c : Nat) (but : Int) (s_ : Int) (t10_a : Option Addr) (t10_l : Nat) (t10_c : Nat) (t11 : Int) (t12 : Int) (w : World) (R : Value → World → Prop) (B1 : (Int) × (Int) × Unit → World → Prop) : Prop :=
  ∃ (t15 : Addr),
  t10_a = some t15 ∧
  0 ≤ (t12 : Int) ∧
  (t12 : Int) < ((t10_l : Nat) : Int) ∧
  ∃ (t16_0 : Int),
  w.cell? (t15.add (Int.toNat t12 * 2)) = some (.int .u32 t16_0) ∧
  ∃ (t16_1 : Int),
  w.cell? ((t15.add (Int.toNat t12 * 2)).add 1) = some (.int .u32 t16_1) ∧
  (∃ u, (w.alloc (.cells ⟨[(.int .u32 0), (.int .u32 0)]⟩ 48)).cell? ⟨w.heap.size, 0, none⟩ = some u) ∧
  (w.alloc (.cells ⟨[(.int .u32 0), (.int .u32 0)]⟩ 48)).frozen? ⟨w.heap.size, 0, none⟩ = false ∧
  (∃ u, ((w.alloc (.cells ⟨[(.int .u32 0), (.int .u32 0)]⟩ 48)).setCell ⟨w.heap.size, 0, none⟩ (.int .u32 t16_0)).cell? ⟨w.heap.size, 1, none⟩ = some u) ∧
  ((w.alloc (.cells ⟨[(.int .u32 0), (.int .u32 0)]⟩ 48)).setCell ⟨w.heap.size, 0, none⟩ (.int .u32 t16_0)).frozen? ⟨w.heap.size, 1, none⟩ = false ∧
  cond (!decide ((t12 : Int) = but)) (
    Calls Try.prog 30 ⟨[(.slice done_a done_l done_c), (.int .i64 t12)]⟩ (((w.alloc (.cells ⟨[(.int .u32 0), (.int .u32 0)]⟩ 48)).setCell ⟨w.heap.size, 0, none⟩ (.int .u32 t16_0)).setCell ⟨w.heap.size, 1, none⟩ (.int .u32 t16_1)) fun e w_ =>
      ∃ (t23 : Bool),
      e = .returned (.bool t23) ∧
      S31_k2 done_a done_l done_c but s_ ⟨w.heap.size, 0, none⟩ t10_a t10_l t10_c t11 t12 (!t23) w_ R B1
  ) (
    S31_k2 done_a done_l done_c but s_ ⟨w.heap.size, 0, none⟩ t10_a t10_l t10_c t11 t12 false (((w.alloc (.cells ⟨[(.int .u32 0), (.int .u32 0)]⟩ 48)).setCell ⟨w.heap.size, 0, none⟩ (.int .u32 t16_0)).setCell ⟨w.heap.size, 1, none⟩ (.int .u32 t16_1)) R B1
  )

def S31_L0 (done_a : Option Addr) (done_l : Nat) (done_c : Nat) (but : Int) (s_ : Int) (t10_a : Option Addr) (t10_l : Nat) (t10_c : Nat) (t11 : Int) (t12 : Int) (w : World) (R : Value → World → Prop) (B1 : (Int) × (Int) × Unit → World → Prop) : Prop :=
  cond (decide ((t12 : Int) < t11)) (
    S31_k1 done_a done_l done_c but s_ t10_a t10_l t10_c t11 t12 w R B1
  ) (
    R (.int .u32 s_) w
  )

def S31 (l_a : Option Addr) (l_l : Nat) (l_c : Nat) (done_a : Option Addr) (done_l : Nat) (done_c : Nat) (but : Int) (w : World) (R : Value → World → Prop) : Prop :=
  ∃ (I : (Int) × (Int) × Unit → World → Prop) (μ : (Int) × (Int) × Unit → World → Nat),
  I (0, 0, ()) w ∧
  ∀ (J : Env) (s : (Int) × (Int) × Unit) (w' : World), I s w' →
    S31_L0 done_a done_l done_c but s.1 l_a l_l l_c ((l_l : Nat) : Int) s.2.1 w' R (fun s' w'' => I s' w'' ∧ μ s' w'' < μ s w')

theorem S31_eq (l_a : Option Addr) (l_l : Nat) (l_c : Nat) (done_a : Option Addr) (done_l : Nat) (done_c : Nat) (but : Int) (w : World) (R : Value → World → Prop) : Eng.R Try.prog ⟨cal, S31_nx⟩ 32 S31_ann [] (Try.f31.body.getD .skip) (bodyQ Try.prog #[.tmp 6] R) (argE [(.slice l_a l_l l_c), (.slice done_a done_l done_c), (.int .i64 but)]) w = S31 l_a l_l l_c done_a done_l done_c but w R := by kernel_rfl
/-- A call of 'carfax/banker.others', by its condition. -/
theorem S31_calls {l_a : Option Addr} {l_l : Nat} {l_c : Nat} {done_a : Option Addr} {done_l : Nat} {done_c : Nat} {but : Int} {w : World} {R : Value → World → Prop} (hS : S31 l_a l_l l_c done_a done_l done_c but w R) : Ret Try.prog 31 [(.slice l_a l_l l_c), (.slice done_a done_l done_c), (.int .i64 but)] w R :=
  R_calls (C := ⟨cal, S31_nx⟩) cal_ok follows Try.func31 (c := Try.f31.body.getD .skip) (res := #[.tmp 6]) (n := 32) (by kernel_rfl) (by kernel_rfl) (by kernel_rfl) (by kernel_rfl) ((S31_eq l_a l_l l_c done_a done_l done_c but w R).mpr hS)

def S32_ann (p : List Nat) : Option LA := match p with
  | [0, 1, 0, 1] => some ⟨[0, 1, 2], [(7, .one (.int .i64))]⟩
  | [0, 1, 1, 0, 0, 1, 0, 0, 1, 0, 1] => some ⟨[0, 1, 2, 7], [(8, .one (.int .i64))]⟩
  | _ => none

def S32_nx (t : Nat) : Option (TypeId × TypeId) := none

def S32_k6 (l_a : Option Addr) (l_l : Nat) (l_c : Nat) (who : Int) (others_a : Option Addr) (others_l : Nat) (others_c : Nat) (k : Int) (j : Int) (t48 : Bool) (w : World) (R : Value → World → Prop) (B1 : (Int) × Unit → World → Prop) (B2 : (Int) × Unit → World → Prop) : Prop :=
  cond t48 (
    R (.bool false) w
  ) (
    B2 ((IntKind.i64.wrap (j + 1)), ()) w
  )

def S32_k5 (l_a : Option Addr) (l_l : Nat) (l_c : Nat) (who : Int) (others_a : Option Addr) (others_l : Nat) (others_c : Nat) (k : Int) (j : Int) (w : World) (R : Value → World → Prop) (B1 : (Int) × Unit → World → Prop) (B2 : (Int) × Unit → World → Prop) : Prop :=
  ∃ (t37 : Addr),
  l_a = some t37 ∧
  0 ≤ (who : Int) ∧
  (who : Int) < ((l_l : Nat) : Int) ∧
  ∃ (t45 : Addr),
  l_a = some t45 ∧
  0 ≤ (k : Int) ∧
  (k : Int) < ((l_l : Nat) : Int) ∧
  ∃ (t39_a : Option Addr) (t39_l : Nat) (t39_c : Nat),
  w.drew.cell? ((t37.add (Int.toNat who * 2)).add 1) = some (.slice t39_a t39_l t39_c) ∧
  ∃ (t41 : Addr),
  t39_a = some t41 ∧
  0 ≤ (j : Int) ∧
  (j : Int) < ((t39_l : Nat) : Int) ∧
  ∃ (t42 : Int),
  w.drew.cell? (t41.add (Int.toNat j * 1)) = some (.int .i64 t42) ∧
  ∃ (t47_a : Option Addr) (t47_l : Nat) (t47_c : Nat),
  w.drew.cell? (t45.add (Int.toNat k * 2)) = some (.slice t47_a t47_l t47_c) ∧
  Calls Try.prog 26 ⟨[(.int .i64 t42), (.slice t47_a t47_l t47_c)]⟩ w.drew fun e w_ =>
    ∃ (t48 : Bool),
    e = .returned (.bool t48) ∧
    S32_k6 l_a l_l l_c who others_a others_l others_c k j t48 w_ R B1 B2

def S32_L4 (l_a : Option Addr) (l_l : Nat) (l_c : Nat) (who : Int) (others_a : Option Addr) (others_l : Nat) (others_c : Nat) (k : Int) (j : Int) (w : World) (R : Value → World → Prop) (B1 : (Int) × Unit → World → Prop) (B2 : (Int) × Unit → World → Prop) : Prop :=
  ∃ (t28 : Addr),
  l_a = some t28 ∧
  0 ≤ (who : Int) ∧
  (who : Int) < ((l_l : Nat) : Int) ∧
  ∃ (t30_a : Option Addr) (t30_l : Nat) (t30_c : Nat),
  w.cell? ((t28.add (Int.toNat who * 2)).add 1) = some (.slice t30_a t30_l t30_c) ∧
  cond (decide ((j : Int) < ((t30_l : Nat) : Int))) (
    S32_k5 l_a l_l l_c who others_a others_l others_c k j w R B1 B2
  ) (
    B1 ((IntKind.i64.wrap (k + 1)), ()) w
  )

def S32_k3 (l_a : Option Addr) (l_l : Nat) (l_c : Nat) (who : Int) (others_a : Option Addr) (others_l : Nat) (others_c : Nat) (k : Int) (w : World) (R : Value → World → Prop) (B1 : (Int) × Unit → World → Prop) : Prop :=
  ∃ (I : (Int) × Unit → World → Prop) (μ : (Int) × Unit → World → Nat),
  I (0, ()) w ∧
  ∀ (J : Env) (s : (Int) × Unit) (w' : World), I s w' →
    S32_L4 l_a l_l l_c who others_a others_l others_c k s.1 w' R B1 (fun s' w'' => I s' w'' ∧ μ s' w'' < μ s w')

def S32_k2 (l_a : Option Addr) (l_l : Nat) (l_c : Nat) (who : Int) (others_a : Option Addr) (others_l : Nat) (others_c : Nat) (k : Int) (t24 : Bool) (w : World) (R : Value → World → Prop) (B1 : (Int) × Unit → World → Prop) : Prop :=
  cond t24 (
    B1 ((IntKind.i64.wrap (k + 1)), ()) w
  ) (
    S32_k3 l_a l_l l_c who others_a others_l others_c k w R B1
  )

def S32_k1 (l_a : Option Addr) (l_l : Nat) (l_c : Nat) (who : Int) (others_a : Option Addr) (others_l : Nat) (others_c : Nat) (k : Int) (w : World) (R : Value → World → Prop) (B1 : (Int) × Unit → World → Prop) : Prop :=
  ∃ (t17 : Addr),
  others_a = some t17 ∧
  0 ≤ (k : Int) ∧
  (k : Int) < ((others_l : Nat) : Int) ∧
  ∃ (t18 : Bool),
  w.cell? (t17.add (Int.toNat k * 1)) = some (.bool t18) ∧
  cond (!t18) (
    S32_k2 l_a l_l l_c who others_a others_l others_c k true w R B1
  ) (
    S32_k2 l_a l_l l_c who others_a others_l others_c k (decide ((k : Int) = who)) w R B1
  )

def S32_L0 (l_a : Option Addr) (l_l : Nat) (l_c : Nat) (who : Int) (others_a : Option Addr) (others_l : Nat) (others_c : Nat) (k : Int) (w : World) (R : Value → World → Prop) (B1 : (Int) × Unit → World → Prop) : Prop :=
  cond (decide ((k : Int) < ((l_l : Nat) : Int))) (
    S32_k1 l_a l_l l_c who others_a others_l others_c k w R B1
  ) (
    R (.bool true) w
  )

def S32 (l_a : Option Addr) (l_l : Nat) (l_c : Nat) (who : Int) (others_a : Option Addr) (others_l : Nat) (others_c : Nat) (w : World) (R : Value → World → Prop) : Prop :=
  ∃ (I : (Int) × Unit → World → Prop) (μ : (Int) × Unit → World → Nat),
  I (0, ()) w ∧
  ∀ (J : Env) (s : (Int) × Unit) (w' : World), I s w' →
    S32_L0 l_a l_l l_c who others_a others_l others_c s.1 w' R (fun s' w'' => I s' w'' ∧ μ s' w'' < μ s w')

theorem S32_eq (l_a : Option Addr) (l_l : Nat) (l_c : Nat) (who : Int) (others_a : Option Addr) (others_l : Nat) (others_c : Nat) (w : World) (R : Value → World → Prop) : Eng.R Try.prog ⟨cal, S32_nx⟩ 49 S32_ann [] (Try.f32.body.getD .skip) (bodyQ Try.prog #[.tmp 6] R) (argE [(.slice l_a l_l l_c), (.int .i64 who), (.slice others_a others_l others_c)]) w = S32 l_a l_l l_c who others_a others_l others_c w R := by kernel_rfl
/-- A call of 'carfax/carfaxref08.can', by its condition. -/
theorem S32_calls {l_a : Option Addr} {l_l : Nat} {l_c : Nat} {who : Int} {others_a : Option Addr} {others_l : Nat} {others_c : Nat} {w : World} {R : Value → World → Prop} (hS : S32 l_a l_l l_c who others_a others_l others_c w R) : Ret Try.prog 32 [(.slice l_a l_l l_c), (.int .i64 who), (.slice others_a others_l others_c)] w R :=
  R_calls (C := ⟨cal, S32_nx⟩) cal_ok follows Try.func32 (c := Try.f32.body.getD .skip) (res := #[.tmp 6]) (n := 49) (by kernel_rfl) (by kernel_rfl) (by kernel_rfl) (by kernel_rfl) ((S32_eq l_a l_l l_c who others_a others_l others_c w R).mpr hS)

def S34_ann (p : List Nat) : Option LA := match p with
  | [0, 1, 0, 1] => some ⟨[0, 1, 7], [(8, .one (.int .i64))]⟩
  | _ => none

def S34_nx (t : Nat) : Option (TypeId × TypeId) := none

def S34_k1 (s_a : Option Addr) (s_l : Nat) (s_c : Nat) (v : Int) (t7 : Int) (t8 : Int) (w : World) (R : Value → World → Prop) (B1 : (Int) × Unit → World → Prop) : Prop :=
  ∃ (t14 : Addr),
  s_a = some t14 ∧
  0 ≤ (t8 : Int) ∧
  (t8 : Int) < ((s_l : Nat) : Int) ∧
  ∃ (t15 : Int),
  w.cell? (t14.add (Int.toNat t8 * 1)) = some (.int .i64 t15) ∧
  cond (decide ((v : Int) = t15)) (
    R (.int .i64 t8) w
  ) (
    B1 ((IntKind.i64.wrap (t8 + 1)), ()) w
  )

def S34_L0 (s_a : Option Addr) (s_l : Nat) (s_c : Nat) (v : Int) (t7 : Int) (t8 : Int) (w : World) (R : Value → World → Prop) (B1 : (Int) × Unit → World → Prop) : Prop :=
  cond (decide ((t8 : Int) < t7)) (
    S34_k1 s_a s_l s_c v t7 t8 w R B1
  ) (
    R (.int .i64 (-1)) w
  )

def S34 (s_a : Option Addr) (s_l : Nat) (s_c : Nat) (v : Int) (w : World) (R : Value → World → Prop) : Prop :=
  ∃ (I : (Int) × Unit → World → Prop) (μ : (Int) × Unit → World → Nat),
  I (0, ()) w ∧
  ∀ (J : Env) (s : (Int) × Unit) (w' : World), I s w' →
    S34_L0 s_a s_l s_c v ((s_l : Nat) : Int) s.1 w' R (fun s' w'' => I s' w'' ∧ μ s' w'' < μ s w')

theorem S34_eq (s_a : Option Addr) (s_l : Nat) (s_c : Nat) (v : Int) (w : World) (R : Value → World → Prop) : Eng.R Try.prog ⟨cal, S34_nx⟩ 19 S34_ann [] (Try.f34.body.getD .skip) (bodyQ Try.prog #[.tmp 4] R) (argE [(.slice s_a s_l s_c), (.int .i64 v)]) w = S34 s_a s_l s_c v w R := by kernel_rfl
/-- A call of 'slices.Index[[]int,int]', by its condition. -/
theorem S34_calls {s_a : Option Addr} {s_l : Nat} {s_c : Nat} {v : Int} {w : World} {R : Value → World → Prop} (hS : S34 s_a s_l s_c v w R) : Ret Try.prog 34 [(.slice s_a s_l s_c), (.int .i64 v)] w R :=
  R_calls (C := ⟨cal, S34_nx⟩) cal_ok follows Try.func34 (c := Try.f34.body.getD .skip) (res := #[.tmp 4]) (n := 19) (by kernel_rfl) (by kernel_rfl) (by kernel_rfl) (by kernel_rfl) ((S34_eq s_a s_l s_c v w R).mpr hS)

def S27_f28_ann (p : List Nat) : Option LA :=
  none

def S27_f28_nx (t : Nat) : Option (TypeId × TypeId) := none

def S27_f28 (s_a : Option Addr) (s_l : Nat) (s_c : Nat) (cap : Addr) (w : World) (R : Value → World → Prop) : Prop :=
  Calls Try.prog 33 ⟨[(.slice s_a s_l s_c), (.func (.func 28) ⟨[]⟩ ⟨[(.pointer (some cap))]⟩)]⟩ w fun e w_ =>
    ∃ (t7 : Int),
    e = .returned (.int .i64 t7) ∧
    R (.bool (decide ((0 : Int) ≤ t7))) w_

theorem S27_f28_eq (s_a : Option Addr) (s_l : Nat) (s_c : Nat) (cap : Addr) (w : World) (R : Value → World → Prop) : Eng.R Try.prog ⟨cal, S27_f28_nx⟩ 9 S27_f28_ann [] (Try.f27.body.getD .skip) (bodyQ Try.prog #[.tmp 4] R) (argE [(.slice s_a s_l s_c), (.func (.func 28) ⟨[]⟩ ⟨[(.pointer (some cap))]⟩)]) w = S27_f28 s_a s_l s_c cap w R := by kernel_rfl
/-- A call of 'slices.ContainsFunc[[]carfax/banker.side,carfax/banker.side]', by its condition. -/
theorem S27_f28_calls {s_a : Option Addr} {s_l : Nat} {s_c : Nat} {cap : Addr} {w : World} {R : Value → World → Prop} (hS : S27_f28 s_a s_l s_c cap w R) : Ret Try.prog 27 [(.slice s_a s_l s_c), (.func (.func 28) ⟨[]⟩ ⟨[(.pointer (some cap))]⟩)] w R :=
  R_calls (C := ⟨cal, S27_f28_nx⟩) cal_ok follows Try.func27 (c := Try.f27.body.getD .skip) (res := #[.tmp 4]) (n := 9) (by kernel_rfl) (by kernel_rfl) (by kernel_rfl) (by kernel_rfl) ((S27_f28_eq s_a s_l s_c cap w R).mpr hS)

def S33_f28_ann (p : List Nat) : Option LA := match p with
  | [0, 1, 0, 1] => some ⟨[0, 1, 7], [(8, .one (.int .i64))]⟩
  | _ => none

def S33_f28_nx (t : Nat) : Option (TypeId × TypeId) := none

def S33_f28_k1 (s_a : Option Addr) (s_l : Nat) (s_c : Nat) (f_c0 : Addr) (t7 : Int) (t8 : Int) (w : World) (R : Value → World → Prop) (B1 : (Int) × Unit → World → Prop) : Prop :=
  ∃ (t14 : Addr),
  s_a = some t14 ∧
  0 ≤ (t8 : Int) ∧
  (t8 : Int) < ((s_l : Nat) : Int) ∧
  ∃ (t15_0 : Int),
  w.cell? (t14.add (Int.toNat t8 * 2)) = some (.int .u32 t15_0) ∧
  ∃ (t15_1 : Int),
  w.cell? ((t14.add (Int.toNat t8 * 2)).add 1) = some (.int .u32 t15_1) ∧
  Calls Try.prog 28 ⟨[(.agg ⟨[(.int .u32 t15_0), (.int .u32 t15_1)]⟩), (.pointer (some f_c0))]⟩ w fun e w_ =>
    ∃ (t16 : Bool),
    e = .returned (.bool t16) ∧
    cond t16 (
      R (.int .i64 t8) w_
    ) (
      B1 ((IntKind.i64.wrap (t8 + 1)), ()) w_
    )

def S33_f28_L0 (s_a : Option Addr) (s_l : Nat) (s_c : Nat) (f_c0 : Addr) (t7 : Int) (t8 : Int) (w : World) (R : Value → World → Prop) (B1 : (Int) × Unit → World → Prop) : Prop :=
  cond (decide ((t8 : Int) < t7)) (
    S33_f28_k1 s_a s_l s_c f_c0 t7 t8 w R B1
  ) (
    R (.int .i64 (-1)) w
  )

def S33_f28 (s_a : Option Addr) (s_l : Nat) (s_c : Nat) (cap : Addr) (w : World) (R : Value → World → Prop) : Prop :=
  ∃ (I : (Int) × Unit → World → Prop) (μ : (Int) × Unit → World → Nat),
  I (0, ()) w ∧
  ∀ (J : Env) (s : (Int) × Unit) (w' : World), I s w' →
    S33_f28_L0 s_a s_l s_c cap ((s_l : Nat) : Int) s.1 w' R (fun s' w'' => I s' w'' ∧ μ s' w'' < μ s w')

theorem S33_f28_eq (s_a : Option Addr) (s_l : Nat) (s_c : Nat) (cap : Addr) (w : World) (R : Value → World → Prop) : Eng.R Try.prog ⟨cal, S33_f28_nx⟩ 19 S33_f28_ann [] (Try.f33.body.getD .skip) (bodyQ Try.prog #[.tmp 4] R) (argE [(.slice s_a s_l s_c), (.func (.func 28) ⟨[]⟩ ⟨[(.pointer (some cap))]⟩)]) w = S33_f28 s_a s_l s_c cap w R := by kernel_rfl
/-- A call of 'slices.IndexFunc[[]carfax/banker.side,carfax/banker.side]', by its condition. -/
theorem S33_f28_calls {s_a : Option Addr} {s_l : Nat} {s_c : Nat} {cap : Addr} {w : World} {R : Value → World → Prop} (hS : S33_f28 s_a s_l s_c cap w R) : Ret Try.prog 33 [(.slice s_a s_l s_c), (.func (.func 28) ⟨[]⟩ ⟨[(.pointer (some cap))]⟩)] w R :=
  R_calls (C := ⟨cal, S33_f28_nx⟩) cal_ok follows Try.func33 (c := Try.f33.body.getD .skip) (res := #[.tmp 4]) (n := 19) (by kernel_rfl) (by kernel_rfl) (by kernel_rfl) (by kernel_rfl) ((S33_f28_eq s_a s_l s_c cap w R).mpr hS)

end Go.Proofs
