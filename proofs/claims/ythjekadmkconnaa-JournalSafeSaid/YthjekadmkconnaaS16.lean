import Derived.Test.YthjekadmkconnaaProg
import Derived.Test.YthjekadmkconnaaEng8
set_option linter.unusedVariables false
set_option maxRecDepth 100000
namespace Go.Proofs
open Go Go.Eng
def cal (f : FuncId) : Bool := Nat.ble 3 f && Nat.blt f 54
theorem cal_all : (List.range 54).all (fun f => !cal f || callable Try.prog f) = true := by kernel_rfl
theorem cal_ok (f : FuncId) (h : cal f = true) : callable Try.prog f = true := by
  have hb := h
  simp only [cal, Bool.and_eq_true, Nat.blt_eq] at hb
  have := List.all_eq_true.1 cal_all f (List.mem_range.2 hb.2)
  rw [h] at this
  simpa using this
theorem follows : Try.prog.follows .mixedOrders = true := by kernel_rfl

def S3_ann (p : List Nat) : Option LA := match p with
  | [0, 1, 0, 1, 1, 1, 1, 1, 1, 1] => some ⟨[0, 1, 5, 6, 7, 31], [(10, .one .slice), (11, .one (.int .i64)), (32, .one (.int .i64))]⟩
  | _ => none

def S3_nx (t : Nat) : Option (TypeId × TypeId) := none

def S3_k5 (head : Bool) (d : Option Addr) (all_a : Option Addr) (all_l : Nat) (all_c : Nat) (safe : Int) (w : World) (R : Value → World → Prop) : Prop :=
  Calls Try.prog 13 ⟨[(.pointer d), (.int .i64 0)]⟩ w fun e w_ =>
    e = .returned (.tuple ⟨[]⟩) ∧
    Calls Try.prog 10 ⟨[(.pointer d)]⟩ w_ fun e w__1 =>
      ∃ (t75_0 : Option Addr) (t75_1_a : Option Addr) (t75_1_l : Nat) (t75_1_c : Nat) (t75_2 : Int),
      e = .returned (.tuple ⟨[(.pointer t75_0), (.slice t75_1_a t75_1_l t75_1_c), (.int .i64 t75_2)]⟩) ∧
      cond head (
        cond (decide ((t75_2 : Int) = 0)) (
          0 ≤ (safe : Int) ∧
          (safe : Int) ≤ ((all_c : Nat) : Int) ∧
          Calls Try.prog 14 ⟨[(.slice t75_1_a t75_1_l t75_1_c), (.slice (slAddr all_a all_c 0 1) ((Int.toNat safe) - 0) (all_c - 0))]⟩ w__1 fun e w__2 =>
            ∃ (t89 : Bool),
            e = .returned (.bool t89) ∧
            R (.bool t89) w__2
        ) (
          R (.bool false) w__1
        )
      ) (
        R (.bool false) w__1
      )

def S3_k7 (l_a : Option Addr) (l_l : Nat) (l_c : Nat) (n_ : Int) (head : Bool) (d : Option Addr) (j : Option Addr) (all_a : Option Addr) (all_l : Nat) (all_c : Nat) (safe : Int) (i : Int) (t31 : Int) (t32 : Int) (w : World) (R : Value → World → Prop) (B1 : (Option Addr × Nat × Nat) × (Int) × (Int) × Unit → World → Prop) : Prop :=
  ∃ (t55 : Addr),
  l_a = some t55 ∧
  0 ≤ (i : Int) ∧
  (i : Int) < ((l_l : Nat) : Int) ∧
  ∃ (t56_a : Option Addr) (t56_l : Nat) (t56_c : Nat),
  w.cell? (t55.add (Int.toNat i * 1)) = some (.slice t56_a t56_l t56_c) ∧
  ∃ (t58_a : Option Addr) (t58_l : Nat) (t58_c : Nat) (w_ : World),
  (Builtin.append_ #[22, 22] 22 ⟨[(.slice all_a all_l all_c), (.slice (some ⟨w.heap.size, 0, none⟩) 1 1)]⟩).run Try.prog (w.alloc (.cells ⟨[(.slice t56_a t56_l t56_c)]⟩ 30)) = .ok (.slice t58_a t58_l t58_c) w_ ∧
  (41 : Int) ≠ 0 ∧
  cond (decide ((((t58_l : Nat) : Int) : Int) = (IntKind.i64.wrap (Int.tmod n_ 41)))) (
    Calls Try.prog 12 ⟨[(.pointer j)]⟩ w_ fun e w__1 =>
      ∃ (t66 : Int),
      e = .returned (.int .i64 t66) ∧
      cond (!decide ((t66 : Int) = 0)) (
        R (.bool false) w__1
      ) (
        B1 ((t58_a, t58_l, t58_c), ((t58_l : Nat) : Int), (IntKind.i64.wrap (t32 + 1)), ()) w__1
      )
  ) (
    B1 ((t58_a, t58_l, t58_c), safe, (IntKind.i64.wrap (t32 + 1)), ()) w_
  )

def S3_k6 (l_a : Option Addr) (l_l : Nat) (l_c : Nat) (n_ : Int) (head : Bool) (d : Option Addr) (j : Option Addr) (all_a : Option Addr) (all_l : Nat) (all_c : Nat) (safe : Int) (i : Int) (t31 : Int) (t32 : Int) (w : World) (R : Value → World → Prop) (B1 : (Option Addr × Nat × Nat) × (Int) × (Int) × Unit → World → Prop) : Prop :=
  ∃ (t48 : Addr),
  l_a = some t48 ∧
  0 ≤ (i : Int) ∧
  (i : Int) < ((l_l : Nat) : Int) ∧
  ∃ (t49_a : Option Addr) (t49_l : Nat) (t49_c : Nat),
  w.cell? (t48.add (Int.toNat i * 1)) = some (.slice t49_a t49_l t49_c) ∧
  Calls Try.prog 11 ⟨[(.pointer j), (.slice t49_a t49_l t49_c)]⟩ w fun e w_ =>
    ∃ (t50 : Int),
    e = .returned (.int .i64 t50) ∧
    cond (!decide ((t50 : Int) = 0)) (
      R (.bool false) w_
    ) (
      S3_k7 l_a l_l l_c n_ head d j all_a all_l all_c safe i t31 t32 w_ R B1
    )

def S3_k4 (l_a : Option Addr) (l_l : Nat) (l_c : Nat) (n_ : Int) (head : Bool) (d : Option Addr) (j : Option Addr) (all_a : Option Addr) (all_l : Nat) (all_c : Nat) (safe : Int) (i : Int) (t31 : Int) (t32 : Int) (t44 : Bool) (w : World) (R : Value → World → Prop) (B1 : (Option Addr × Nat × Nat) × (Int) × (Int) × Unit → World → Prop) : Prop :=
  cond t44 (
    S3_k5 head d all_a all_l all_c safe w R
  ) (
    S3_k6 l_a l_l l_c n_ head d j all_a all_l all_c safe i t31 t32 w R B1
  )

def S3_k3 (l_a : Option Addr) (l_l : Nat) (l_c : Nat) (n_ : Int) (head : Bool) (d : Option Addr) (j : Option Addr) (all_a : Option Addr) (all_l : Nat) (all_c : Nat) (safe : Int) (t31 : Int) (t32 : Int) (w : World) (R : Value → World → Prop) (B1 : (Option Addr × Nat × Nat) × (Int) × (Int) × Unit → World → Prop) : Prop :=
  cond (decide ((40 : Int) ≤ t32)) (
    S3_k4 l_a l_l l_c n_ head d j all_a all_l all_c safe t32 t31 t32 true w R B1
  ) (
    ∃ (t40 : Addr),
    l_a = some t40 ∧
    0 ≤ (t32 : Int) ∧
    (t32 : Int) < ((l_l : Nat) : Int) ∧
    ∃ (t41_a : Option Addr) (t41_l : Nat) (t41_c : Nat),
    w.cell? (t40.add (Int.toNat t32 * 1)) = some (.slice t41_a t41_l t41_c) ∧
    S3_k4 l_a l_l l_c n_ head d j all_a all_l all_c safe t32 t31 t32 (decide ((1000 : Int) < ((t41_l : Nat) : Int))) w R B1
  )

def S3_L2 (l_a : Option Addr) (l_l : Nat) (l_c : Nat) (n_ : Int) (head : Bool) (d : Option Addr) (j : Option Addr) (all_a : Option Addr) (all_l : Nat) (all_c : Nat) (safe : Int) (t31 : Int) (t32 : Int) (w : World) (R : Value → World → Prop) (B1 : (Option Addr × Nat × Nat) × (Int) × (Int) × Unit → World → Prop) : Prop :=
  cond (decide ((t32 : Int) < t31)) (
    S3_k3 l_a l_l l_c n_ head d j all_a all_l all_c safe t31 t32 w R B1
  ) (
    S3_k5 head d all_a all_l all_c safe w R
  )

def S3_k1 (l_a : Option Addr) (l_l : Nat) (l_c : Nat) (n_ : Int) (head : Bool) (d : Option Addr) (j : Option Addr) (w : World) (R : Value → World → Prop) : Prop :=
  ∃ (I : (Option Addr × Nat × Nat) × (Int) × (Int) × Unit → World → Prop) (μ : (Option Addr × Nat × Nat) × (Int) × (Int) × Unit → World → Nat),
  I ((none, 0, 0), 0, 0, ()) w ∧
  ∀ (J : Env) (s : (Option Addr × Nat × Nat) × (Int) × (Int) × Unit) (w' : World), I s w' →
    S3_L2 l_a l_l l_c n_ head d j s.1.1 s.1.2.1 s.1.2.2 s.2.1 ((l_l : Nat) : Int) s.2.2.1 w' R (fun s' w'' => I s' w'' ∧ μ s' w'' < μ s w')

def S3_k0 (l_a : Option Addr) (l_l : Nat) (l_c : Nat) (n_ : Int) (head : Bool) (d : Option Addr) (j : Option Addr) (t29 : Bool) (w : World) (R : Value → World → Prop) : Prop :=
  cond t29 (
    R (.bool false) w
  ) (
    S3_k1 l_a l_l l_c n_ head d j w R
  )

def S3 (l_a : Option Addr) (l_l : Nat) (l_c : Nat) (n_ : Int) (w : World) (R : Value → World → Prop) : Prop :=
  Calls Try.prog 8 ⟨[]⟩ w fun e w_ =>
    ∃ (t16 : Bool),
    e = .returned (.bool t16) ∧
    Calls Try.prog 9 ⟨[]⟩ w_ fun e w__1 =>
      ∃ (t17 : Option Addr),
      e = .returned (.pointer t17) ∧
      Calls Try.prog 10 ⟨[(.pointer t17)]⟩ w__1 fun e w__2 =>
        ∃ (t20_0 : Option Addr) (t20_1_a : Option Addr) (t20_1_l : Nat) (t20_1_c : Nat) (t20_2 : Int),
        e = .returned (.tuple ⟨[(.pointer t20_0), (.slice t20_1_a t20_1_l t20_1_c), (.int .i64 t20_2)]⟩) ∧
        cond (Option.isNone t20_0) (
          S3_k0 l_a l_l l_c n_ t16 t17 t20_0 true w__2 R
        ) (
          S3_k0 l_a l_l l_c n_ t16 t17 t20_0 (!decide ((t20_2 : Int) = 0)) w__2 R
        )

theorem S3_eq (l_a : Option Addr) (l_l : Nat) (l_c : Nat) (n_ : Int) (w : World) (R : Value → World → Prop) : Eng.R Try.prog ⟨cal, S3_nx⟩ 91 S3_ann [] (Try.f3.body.getD .skip) (bodyQ Try.prog #[.tmp 4] R) (argE [(.slice l_a l_l l_c), (.int .u8 n_)]) w = S3 l_a l_l l_c n_ w R := by kernel_rfl
/-- A call of 'carfax/carfaxlaw16.JournalSafe', by its condition. -/
theorem S3_calls {l_a : Option Addr} {l_l : Nat} {l_c : Nat} {n_ : Int} {w : World} {R : Value → World → Prop} (hS : S3 l_a l_l l_c n_ w R) : Ret Try.prog 3 [(.slice l_a l_l l_c), (.int .u8 n_)] w R :=
  R_calls (C := ⟨cal, S3_nx⟩) cal_ok follows Try.func3 (c := Try.f3.body.getD .skip) (res := #[.tmp 4]) (n := 91) (by kernel_rfl) (by kernel_rfl) (by kernel_rfl) (by kernel_rfl) ((S3_eq l_a l_l l_c n_ w R).mpr hS)

def S4_ann (p : List Nat) : Option LA := match p with
  | [0, 1, 0, 1, 1, 1, 1, 1, 1, 1, 1] => some ⟨[1, 5, 6, 7, 40], [(10, .one .slice), (41, .one (.int .i64))]⟩
  | _ => none

def S4_nx (t : Nat) : Option (TypeId × TypeId) := none

def S4_k8 (head : Bool) (d : Option Addr) (all_a : Option Addr) (all_l : Nat) (all_c : Nat) (w : World) (R : Value → World → Prop) : Prop :=
  Calls Try.prog 13 ⟨[(.pointer d), (.int .i64 0)]⟩ w fun e w_ =>
    e = .returned (.tuple ⟨[]⟩) ∧
    Calls Try.prog 10 ⟨[(.pointer d)]⟩ w_ fun e w__1 =>
      ∃ (t83_0 : Option Addr) (t83_1_a : Option Addr) (t83_1_l : Nat) (t83_1_c : Nat) (t83_2 : Int),
      e = .returned (.tuple ⟨[(.pointer t83_0), (.slice t83_1_a t83_1_l t83_1_c), (.int .i64 t83_2)]⟩) ∧
      cond head (
        cond (decide ((t83_2 : Int) = 0)) (
          Calls Try.prog 14 ⟨[(.slice t83_1_a t83_1_l t83_1_c), (.slice all_a all_l all_c)]⟩ w__1 fun e w__2 =>
            ∃ (t95 : Bool),
            e = .returned (.bool t95) ∧
            R (.bool t95) w__2
        ) (
          R (.bool false) w__1
        )
      ) (
        R (.bool false) w__1
      )

def S4_k7 (head : Bool) (d : Option Addr) (all_a : Option Addr) (all_l : Nat) (all_c : Nat) (t78 : Bool) (w : World) (R : Value → World → Prop) : Prop :=
  cond t78 (
    R (.bool false) w
  ) (
    S4_k8 head d all_a all_l all_c w R
  )

def S4_k6 (head : Bool) (d : Option Addr) (j : Option Addr) (all_a : Option Addr) (all_l : Nat) (all_c : Nat) (w : World) (R : Value → World → Prop) : Prop :=
  Calls Try.prog 12 ⟨[(.pointer j)]⟩ w fun e w_ =>
    ∃ (t70 : Int),
    e = .returned (.int .i64 t70) ∧
    cond (!decide ((t70 : Int) = 0)) (
      S4_k7 head d all_a all_l all_c true w_ R
    ) (
      Calls Try.prog 16 ⟨[(.pointer j)]⟩ w_ fun e w__1 =>
        ∃ (t74 : Int),
        e = .returned (.int .i64 t74) ∧
        S4_k7 head d all_a all_l all_c (!decide ((t74 : Int) = ((all_l : Nat) : Int))) w__1 R
    )

def S4_k10 (l_a : Option Addr) (l_l : Nat) (l_c : Nat) (head : Bool) (d : Option Addr) (j : Option Addr) (all_a : Option Addr) (all_l : Nat) (all_c : Nat) (i : Int) (t40 : Int) (t41 : Int) (w : World) (R : Value → World → Prop) (B1 : (Option Addr × Nat × Nat) × (Int) × Unit → World → Prop) : Prop :=
  ∃ (t64 : Addr),
  l_a = some t64 ∧
  0 ≤ (i : Int) ∧
  (i : Int) < ((l_l : Nat) : Int) ∧
  ∃ (t65_a : Option Addr) (t65_l : Nat) (t65_c : Nat),
  w.cell? (t64.add (Int.toNat i * 1)) = some (.slice t65_a t65_l t65_c) ∧
  ∃ (t67_a : Option Addr) (t67_l : Nat) (t67_c : Nat) (w_ : World),
  (Builtin.append_ #[22, 22] 22 ⟨[(.slice all_a all_l all_c), (.slice (some ⟨w.heap.size, 0, none⟩) 1 1)]⟩).run Try.prog (w.alloc (.cells ⟨[(.slice t65_a t65_l t65_c)]⟩ 30)) = .ok (.slice t67_a t67_l t67_c) w_ ∧
  B1 ((t67_a, t67_l, t67_c), (IntKind.i64.wrap (t41 + 1)), ()) w_

def S4_k9 (l_a : Option Addr) (l_l : Nat) (l_c : Nat) (head : Bool) (d : Option Addr) (j : Option Addr) (all_a : Option Addr) (all_l : Nat) (all_c : Nat) (i : Int) (t40 : Int) (t41 : Int) (w : World) (R : Value → World → Prop) (B1 : (Option Addr × Nat × Nat) × (Int) × Unit → World → Prop) : Prop :=
  ∃ (t57 : Addr),
  l_a = some t57 ∧
  0 ≤ (i : Int) ∧
  (i : Int) < ((l_l : Nat) : Int) ∧
  ∃ (t58_a : Option Addr) (t58_l : Nat) (t58_c : Nat),
  w.cell? (t57.add (Int.toNat i * 1)) = some (.slice t58_a t58_l t58_c) ∧
  Calls Try.prog 11 ⟨[(.pointer j), (.slice t58_a t58_l t58_c)]⟩ w fun e w_ =>
    ∃ (t59 : Int),
    e = .returned (.int .i64 t59) ∧
    cond (!decide ((t59 : Int) = 0)) (
      R (.bool false) w_
    ) (
      S4_k10 l_a l_l l_c head d j all_a all_l all_c i t40 t41 w_ R B1
    )

def S4_k5 (l_a : Option Addr) (l_l : Nat) (l_c : Nat) (head : Bool) (d : Option Addr) (j : Option Addr) (all_a : Option Addr) (all_l : Nat) (all_c : Nat) (i : Int) (t40 : Int) (t41 : Int) (t53 : Bool) (w : World) (R : Value → World → Prop) (B1 : (Option Addr × Nat × Nat) × (Int) × Unit → World → Prop) : Prop :=
  cond t53 (
    S4_k6 head d j all_a all_l all_c w R
  ) (
    S4_k9 l_a l_l l_c head d j all_a all_l all_c i t40 t41 w R B1
  )

def S4_k4 (l_a : Option Addr) (l_l : Nat) (l_c : Nat) (head : Bool) (d : Option Addr) (j : Option Addr) (all_a : Option Addr) (all_l : Nat) (all_c : Nat) (t40 : Int) (t41 : Int) (w : World) (R : Value → World → Prop) (B1 : (Option Addr × Nat × Nat) × (Int) × Unit → World → Prop) : Prop :=
  cond (decide ((20 : Int) ≤ t41)) (
    S4_k5 l_a l_l l_c head d j all_a all_l all_c t41 t40 t41 true w R B1
  ) (
    ∃ (t49 : Addr),
    l_a = some t49 ∧
    0 ≤ (t41 : Int) ∧
    (t41 : Int) < ((l_l : Nat) : Int) ∧
    ∃ (t50_a : Option Addr) (t50_l : Nat) (t50_c : Nat),
    w.cell? (t49.add (Int.toNat t41 * 1)) = some (.slice t50_a t50_l t50_c) ∧
    S4_k5 l_a l_l l_c head d j all_a all_l all_c t41 t40 t41 (decide ((1000 : Int) < ((t50_l : Nat) : Int))) w R B1
  )

def S4_L3 (l_a : Option Addr) (l_l : Nat) (l_c : Nat) (head : Bool) (d : Option Addr) (j : Option Addr) (all_a : Option Addr) (all_l : Nat) (all_c : Nat) (t40 : Int) (t41 : Int) (w : World) (R : Value → World → Prop) (B1 : (Option Addr × Nat × Nat) × (Int) × Unit → World → Prop) : Prop :=
  cond (decide ((t41 : Int) < t40)) (
    S4_k4 l_a l_l l_c head d j all_a all_l all_c t40 t41 w R B1
  ) (
    S4_k6 head d j all_a all_l all_c w R
  )

def S4_k2 (l_a : Option Addr) (l_l : Nat) (l_c : Nat) (head : Bool) (d : Option Addr) (j : Option Addr) (a_a : Option Addr) (a_l : Nat) (a_c : Nat) (w : World) (R : Value → World → Prop) : Prop :=
  ∃ (t38_a : Option Addr) (t38_l : Nat) (t38_c : Nat) (w_ : World),
  (Builtin.append_ #[22, 22] 22 ⟨[(.slice (some ⟨w.heap.size, 0, none⟩) 0 0), (.slice a_a a_l a_c)]⟩).run Try.prog (w.alloc (.cells ⟨[]⟩ 30)) = .ok (.slice t38_a t38_l t38_c) w_ ∧
  ∃ (I : (Option Addr × Nat × Nat) × (Int) × Unit → World → Prop) (μ : (Option Addr × Nat × Nat) × (Int) × Unit → World → Nat),
  I ((t38_a, t38_l, t38_c), 0, ()) w_ ∧
  ∀ (J : Env) (s : (Option Addr × Nat × Nat) × (Int) × Unit) (w' : World), I s w' →
    S4_L3 l_a l_l l_c head d j s.1.1 s.1.2.1 s.1.2.2 ((l_l : Nat) : Int) s.2.1 w' R (fun s' w'' => I s' w'' ∧ μ s' w'' < μ s w')

def S4_k1 (l_a : Option Addr) (l_l : Nat) (l_c : Nat) (head : Bool) (d : Option Addr) (j : Option Addr) (a_a : Option Addr) (a_l : Nat) (a_c : Nat) (t35 : Bool) (w : World) (R : Value → World → Prop) : Prop :=
  cond t35 (
    R (.bool false) w
  ) (
    S4_k2 l_a l_l l_c head d j a_a a_l a_c w R
  )

def S4_k0 (first_a : Option Addr) (first_l : Nat) (first_c : Nat) (l_a : Option Addr) (l_l : Nat) (l_c : Nat) (head : Bool) (w : World) (R : Value → World → Prop) : Prop :=
  Calls Try.prog 9 ⟨[]⟩ w fun e w_ =>
    ∃ (t20 : Option Addr),
    e = .returned (.pointer t20) ∧
    Calls Try.prog 15 ⟨[(.pointer t20), (.slice first_a first_l first_c)]⟩ w_ fun e w__1 =>
      ∃ (t23 : Int),
      e = .returned (.int .i64 t23) ∧
      Calls Try.prog 10 ⟨[(.pointer t20)]⟩ w__1 fun e w__2 =>
        ∃ (t26_0 : Option Addr) (t26_1_a : Option Addr) (t26_1_l : Nat) (t26_1_c : Nat) (t26_2 : Int),
        e = .returned (.tuple ⟨[(.pointer t26_0), (.slice t26_1_a t26_1_l t26_1_c), (.int .i64 t26_2)]⟩) ∧
        cond (Option.isNone t26_0) (
          S4_k1 l_a l_l l_c head t20 t26_0 t26_1_a t26_1_l t26_1_c true w__2 R
        ) (
          S4_k1 l_a l_l l_c head t20 t26_0 t26_1_a t26_1_l t26_1_c (!decide ((t26_2 : Int) = 0)) w__2 R
        )

def S4 (first_a : Option Addr) (first_l : Nat) (first_c : Nat) (l_a : Option Addr) (l_l : Nat) (l_c : Nat) (w : World) (R : Value → World → Prop) : Prop :=
  Calls Try.prog 8 ⟨[]⟩ w fun e w_ =>
    ∃ (t15 : Bool),
    e = .returned (.bool t15) ∧
    cond (decide ((5000 : Int) < ((first_l : Nat) : Int))) (
      R (.bool t15) w_
    ) (
      S4_k0 first_a first_l first_c l_a l_l l_c t15 w_ R
    )

theorem S4_eq (first_a : Option Addr) (first_l : Nat) (first_c : Nat) (l_a : Option Addr) (l_l : Nat) (l_c : Nat) (w : World) (R : Value → World → Prop) : Eng.R Try.prog ⟨cal, S4_nx⟩ 97 S4_ann [] (Try.f4.body.getD .skip) (bodyQ Try.prog #[.tmp 4] R) (argE [(.slice first_a first_l first_c), (.slice l_a l_l l_c)]) w = S4 first_a first_l first_c l_a l_l l_c w R := by kernel_rfl
/-- A call of 'carfax/carfaxlaw16.JournalAny', by its condition. -/
theorem S4_calls {first_a : Option Addr} {first_l : Nat} {first_c : Nat} {l_a : Option Addr} {l_l : Nat} {l_c : Nat} {w : World} {R : Value → World → Prop} (hS : S4 first_a first_l first_c l_a l_l l_c w R) : Ret Try.prog 4 [(.slice first_a first_l first_c), (.slice l_a l_l l_c)] w R :=
  R_calls (C := ⟨cal, S4_nx⟩) cal_ok follows Try.func4 (c := Try.f4.body.getD .skip) (res := #[.tmp 4]) (n := 97) (by kernel_rfl) (by kernel_rfl) (by kernel_rfl) (by kernel_rfl) ((S4_eq first_a first_l first_c l_a l_l l_c w R).mpr hS)

def S5_ann (p : List Nat) : Option LA := match p with
  | [0, 1, 0, 1, 1, 1, 1, 1, 1, 1] => some ⟨[3, 4, 37, 38], [(5, .one .pointer), (8, .one .slice), (9, .one (.int .i64)), (39, .one (.int .i64))]⟩
  | _ => none

def S5_nx (t : Nat) : Option (TypeId × TypeId) := none

def S5_k5 (head : Bool) (d : Option Addr) (j : Option Addr) (all_a : Option Addr) (all_l : Nat) (all_c : Nat) (safe : Int) (t37_a : Option Addr) (t37_l : Nat) (t37_c : Nat) (t38 : Int) (t39 : Int) (t79 : Bool) (w : World) (R : Value → World → Prop) (B1 : (Option Addr) × (Option Addr × Nat × Nat) × (Int) × (Int) × Unit → World → Prop) : Prop :=
  cond t79 (
    R (.bool false) w
  ) (
    B1 (j, (all_a, all_l, all_c), safe, (IntKind.i64.wrap (t39 + 1)), ()) w
  )

def S5_k4 (head : Bool) (d : Option Addr) (j : Option Addr) (all_a : Option Addr) (all_l : Nat) (all_c : Nat) (safe : Int) (a : Addr) (f : Int) (t37_a : Option Addr) (t37_l : Nat) (t37_c : Nat) (t38 : Int) (t39 : Int) (w : World) (R : Value → World → Prop) (B1 : (Option Addr) × (Option Addr × Nat × Nat) × (Int) × (Int) × Unit → World → Prop) : Prop :=
  cond (!decide ((f : Int) = 0)) (
    cond (!decide ((f : Int) = 4)) (
      cond (!decide ((f : Int) = 5)) (
        S5_k5 head d j all_a all_l all_c safe t37_a t37_l t37_c t38 t39 true w R B1
      ) (
        Calls Try.prog 18 ⟨[(.pointer d)]⟩ w fun e w_ =>
          ∃ (t76 : Bool),
          e = .returned (.bool t76) ∧
          S5_k5 head d j all_a all_l all_c safe t37_a t37_l t37_c t38 t39 (!t76) w_ R B1
      )
    ) (
      ∃ (t66_a : Option Addr) (t66_l : Nat) (t66_c : Nat),
      w.cell? (a.add 1) = some (.slice t66_a t66_l t66_c) ∧
      cond (decide ((((t66_l : Nat) : Int) : Int) ≤ 1000)) (
        cond (!decide ((f : Int) = 5)) (
          S5_k5 head d j all_a all_l all_c safe t37_a t37_l t37_c t38 t39 true w R B1
        ) (
          Calls Try.prog 18 ⟨[(.pointer d)]⟩ w fun e w__1 =>
            ∃ (t76_1 : Bool),
            e = .returned (.bool t76_1) ∧
            S5_k5 head d j all_a all_l all_c safe t37_a t37_l t37_c t38 t39 (!t76_1) w__1 R B1
        )
      ) (
        S5_k5 head d j all_a all_l all_c safe t37_a t37_l t37_c t38 t39 false w R B1
      )
    )
  ) (
    S5_k5 head d j all_a all_l all_c safe t37_a t37_l t37_c t38 t39 false w R B1
  )

def S5_k7 (head : Bool) (d : Option Addr) (all_a : Option Addr) (all_l : Nat) (all_c : Nat) (i : Option Addr) (found_a : Option Addr) (found_l : Nat) (found_c : Nat) (t37_a : Option Addr) (t37_l : Nat) (t37_c : Nat) (t38 : Int) (t39 : Int) (w : World) (R : Value → World → Prop) (B1 : (Option Addr) × (Option Addr × Nat × Nat) × (Int) × (Int) × Unit → World → Prop) : Prop :=
  0 ≤ (((found_l : Nat) : Int) : Int) ∧
  (((found_l : Nat) : Int) : Int) ≤ ((all_c : Nat) : Int) ∧
  0 ≤ (((found_l : Nat) : Int) : Int) ∧
  (((found_l : Nat) : Int) : Int) ≤ (((Int.toNat ((found_l : Nat) : Int)) : Nat) : Int) ∧
  B1 (i, ((slAddr all_a (Int.toNat ((found_l : Nat) : Int)) 0 1), ((Int.toNat ((found_l : Nat) : Int)) - 0), ((Int.toNat ((found_l : Nat) : Int)) - 0)), ((found_l : Nat) : Int), (IntKind.i64.wrap (t39 + 1)), ()) w.drew

def S5_k6 (head : Bool) (d : Option Addr) (all_a : Option Addr) (all_l : Nat) (all_c : Nat) (i : Option Addr) (found_a : Option Addr) (found_l : Nat) (found_c : Nat) (t37_a : Option Addr) (t37_l : Nat) (t37_c : Nat) (t38 : Int) (t39 : Int) (t139 : Bool) (w : World) (R : Value → World → Prop) (B1 : (Option Addr) × (Option Addr × Nat × Nat) × (Int) × (Int) × Unit → World → Prop) : Prop :=
  cond t139 (
    R (.bool false) w
  ) (
    S5_k7 head d all_a all_l all_c i found_a found_l found_c t37_a t37_l t37_c t38 t39 w R B1
  )

def S5_k3 (head : Bool) (d : Option Addr) (j : Option Addr) (all_a : Option Addr) (all_l : Nat) (all_c : Nat) (safe : Int) (t37_a : Option Addr) (t37_l : Nat) (t37_c : Nat) (t38 : Int) (t39 : Int) (w : World) (R : Value → World → Prop) (B1 : (Option Addr) × (Option Addr × Nat × Nat) × (Int) × (Int) × Unit → World → Prop) : Prop :=
  ∃ (t41 : Addr),
  t37_a = some t41 ∧
  0 ≤ (t39 : Int) ∧
  (t39 : Int) < ((t37_l : Nat) : Int) ∧
  ∃ (t42_0 : Int),
  w.cell? (t41.add (Int.toNat t39 * 3)) = some (.int .u8 t42_0) ∧
  ∃ (t42_1_a : Option Addr) (t42_1_l : Nat) (t42_1_c : Nat),
  w.cell? ((t41.add (Int.toNat t39 * 3)).add 1) = some (.slice t42_1_a t42_1_l t42_1_c) ∧
  ∃ (t42_2 : Int),
  w.cell? ((t41.add (Int.toNat t39 * 3)).add 2) = some (.int .i64 t42_2) ∧
  (∃ u, (w.alloc (.cells ⟨[(.int .u8 0), (.slice none 0 0), (.int .i64 0)]⟩ 41)).cell? ⟨w.heap.size, 0, none⟩ = some u) ∧
  (w.alloc (.cells ⟨[(.int .u8 0), (.slice none 0 0), (.int .i64 0)]⟩ 41)).frozen? ⟨w.heap.size, 0, none⟩ = false ∧
  (∃ u, ((w.alloc (.cells ⟨[(.int .u8 0), (.slice none 0 0), (.int .i64 0)]⟩ 41)).setCell ⟨w.heap.size, 0, none⟩ (.int .u8 t42_0)).cell? ⟨w.heap.size, 1, none⟩ = some u) ∧
  ((w.alloc (.cells ⟨[(.int .u8 0), (.slice none 0 0), (.int .i64 0)]⟩ 41)).setCell ⟨w.heap.size, 0, none⟩ (.int .u8 t42_0)).frozen? ⟨w.heap.size, 1, none⟩ = false ∧
  (∃ u, (((w.alloc (.cells ⟨[(.int .u8 0), (.slice none 0 0), (.int .i64 0)]⟩ 41)).setCell ⟨w.heap.size, 0, none⟩ (.int .u8 t42_0)).setCell ⟨w.heap.size, 1, none⟩ (.slice t42_1_a t42_1_l t42_1_c)).cell? ⟨w.heap.size, 2, none⟩ = some u) ∧
  (((w.alloc (.cells ⟨[(.int .u8 0), (.slice none 0 0), (.int .i64 0)]⟩ 41)).setCell ⟨w.heap.size, 0, none⟩ (.int .u8 t42_0)).setCell ⟨w.heap.size, 1, none⟩ (.slice t42_1_a t42_1_l t42_1_c)).frozen? ⟨w.heap.size, 2, none⟩ = false ∧
  ∃ (t44 : Int),
  ((((w.alloc (.cells ⟨[(.int .u8 0), (.slice none 0 0), (.int .i64 0)]⟩ 41)).setCell ⟨w.heap.size, 0, none⟩ (.int .u8 t42_0)).setCell ⟨w.heap.size, 1, none⟩ (.slice t42_1_a t42_1_l t42_1_c)).setCell ⟨w.heap.size, 2, none⟩ (.int .i64 t42_2)).cell? ⟨w.heap.size, 0, none⟩ = some (.int .u8 t44) ∧
  (5 : Int) ≠ 0 ∧
  cond (decide (((Int.tmod t44 5) : Int) = 0)) (
    ∃ (t50_a : Option Addr) (t50_l : Nat) (t50_c : Nat),
    ((((w.alloc (.cells ⟨[(.int .u8 0), (.slice none 0 0), (.int .i64 0)]⟩ 41)).setCell ⟨w.heap.size, 0, none⟩ (.int .u8 t42_0)).setCell ⟨w.heap.size, 1, none⟩ (.slice t42_1_a t42_1_l t42_1_c)).setCell ⟨w.heap.size, 2, none⟩ (.int .i64 t42_2)).cell? ⟨w.heap.size, 1, none⟩ = some (.slice t50_a t50_l t50_c) ∧
    Calls Try.prog 11 ⟨[(.pointer j), (.slice t50_a t50_l t50_c)]⟩ ((((w.alloc (.cells ⟨[(.int .u8 0), (.slice none 0 0), (.int .i64 0)]⟩ 41)).setCell ⟨w.heap.size, 0, none⟩ (.int .u8 t42_0)).setCell ⟨w.heap.size, 1, none⟩ (.slice t42_1_a t42_1_l t42_1_c)).setCell ⟨w.heap.size, 2, none⟩ (.int .i64 t42_2)) fun e w_ =>
      ∃ (t51 : Int),
      e = .returned (.int .i64 t51) ∧
      cond (decide ((t51 : Int) = 0)) (
        ∃ (t56_a : Option Addr) (t56_l : Nat) (t56_c : Nat),
        w_.cell? ⟨w.heap.size, 1, none⟩ = some (.slice t56_a t56_l t56_c) ∧
        ∃ (t58_a : Option Addr) (t58_l : Nat) (t58_c : Nat) (w__1 : World),
        (Builtin.append_ #[22, 22] 22 ⟨[(.slice all_a all_l all_c), (.slice (some ⟨w_.heap.size, 0, none⟩) 1 1)]⟩).run Try.prog (w_.alloc (.cells ⟨[(.slice t56_a t56_l t56_c)]⟩ 30)) = .ok (.slice t58_a t58_l t58_c) w__1 ∧
        S5_k4 head d j t58_a t58_l t58_c safe ⟨w.heap.size, 0, none⟩ t51 t37_a t37_l t37_c t38 t39 w__1 R B1
      ) (
        S5_k4 head d j all_a all_l all_c safe ⟨w.heap.size, 0, none⟩ t51 t37_a t37_l t37_c t38 t39 w_ R B1
      )
  ) (
    cond (decide (((Int.tmod t44 5) : Int) = 1)) (
      Calls Try.prog 12 ⟨[(.pointer j)]⟩ ((((w.alloc (.cells ⟨[(.int .u8 0), (.slice none 0 0), (.int .i64 0)]⟩ 41)).setCell ⟨w.heap.size, 0, none⟩ (.int .u8 t42_0)).setCell ⟨w.heap.size, 1, none⟩ (.slice t42_1_a t42_1_l t42_1_c)).setCell ⟨w.heap.size, 2, none⟩ (.int .i64 t42_2)) fun e w__2 =>
        ∃ (t83 : Int),
        e = .returned (.int .i64 t83) ∧
        cond (decide ((t83 : Int) = 0)) (
          B1 (j, (all_a, all_l, all_c), ((all_l : Nat) : Int), (IntKind.i64.wrap (t39 + 1)), ()) w__2
        ) (
          B1 (j, (all_a, all_l, all_c), safe, (IntKind.i64.wrap (t39 + 1)), ()) w__2
        )
    ) (
      cond (decide (((Int.tmod t44 5) : Int) = 2)) (
        ∃ (t91 : Int),
        ((((w.alloc (.cells ⟨[(.int .u8 0), (.slice none 0 0), (.int .i64 0)]⟩ 41)).setCell ⟨w.heap.size, 0, none⟩ (.int .u8 t42_0)).setCell ⟨w.heap.size, 1, none⟩ (.slice t42_1_a t42_1_l t42_1_c)).setCell ⟨w.heap.size, 2, none⟩ (.int .i64 t42_2)).cell? ⟨w.heap.size, 2, none⟩ = some (.int .i64 t91) ∧
        Calls Try.prog 19 ⟨[(.pointer d), (.int .i64 t91)]⟩ ((((w.alloc (.cells ⟨[(.int .u8 0), (.slice none 0 0), (.int .i64 0)]⟩ 41)).setCell ⟨w.heap.size, 0, none⟩ (.int .u8 t42_0)).setCell ⟨w.heap.size, 1, none⟩ (.slice t42_1_a t42_1_l t42_1_c)).setCell ⟨w.heap.size, 2, none⟩ (.int .i64 t42_2)) fun e w__3 =>
          e = .returned (.tuple ⟨[]⟩) ∧
          B1 (j, (all_a, all_l, all_c), safe, (IntKind.i64.wrap (t39 + 1)), ()) w__3
      ) (
        cond (decide (((Int.tmod t44 5) : Int) = 3)) (
          ∃ (t97 : Int),
          ((((w.alloc (.cells ⟨[(.int .u8 0), (.slice none 0 0), (.int .i64 0)]⟩ 41)).setCell ⟨w.heap.size, 0, none⟩ (.int .u8 t42_0)).setCell ⟨w.heap.size, 1, none⟩ (.slice t42_1_a t42_1_l t42_1_c)).setCell ⟨w.heap.size, 2, none⟩ (.int .i64 t42_2)).cell? ⟨w.heap.size, 2, none⟩ = some (.int .i64 t97) ∧
          Calls Try.prog 13 ⟨[(.pointer d), (.int .i64 t97)]⟩ ((((w.alloc (.cells ⟨[(.int .u8 0), (.slice none 0 0), (.int .i64 0)]⟩ 41)).setCell ⟨w.heap.size, 0, none⟩ (.int .u8 t42_0)).setCell ⟨w.heap.size, 1, none⟩ (.slice t42_1_a t42_1_l t42_1_c)).setCell ⟨w.heap.size, 2, none⟩ (.int .i64 t42_2)) fun e w__4 =>
            e = .returned (.tuple ⟨[]⟩) ∧
            Calls Try.prog 10 ⟨[(.pointer d)]⟩ w__4 fun e w__5 =>
              ∃ (t101_0 : Option Addr) (t101_1_a : Option Addr) (t101_1_l : Nat) (t101_1_c : Nat) (t101_2 : Int),
              e = .returned (.tuple ⟨[(.pointer t101_0), (.slice t101_1_a t101_1_l t101_1_c), (.int .i64 t101_2)]⟩) ∧
              cond (Option.isNone t101_0) (
                S5_k6 head d all_a all_l all_c t101_0 t101_1_a t101_1_l t101_1_c t37_a t37_l t37_c t38 t39 true w__5 R B1
              ) (
                cond (!decide ((t101_2 : Int) = 0)) (
                  S5_k6 head d all_a all_l all_c t101_0 t101_1_a t101_1_l t101_1_c t37_a t37_l t37_c t38 t39 true w__5 R B1
                ) (
                  cond (decide ((((t101_1_l : Nat) : Int) : Int) < safe)) (
                    S5_k6 head d all_a all_l all_c t101_0 t101_1_a t101_1_l t101_1_c t37_a t37_l t37_c t38 t39 true w__5 R B1
                  ) (
                    cond (decide ((((all_l : Nat) : Int) : Int) < ((t101_1_l : Nat) : Int))) (
                      S5_k6 head d all_a all_l all_c t101_0 t101_1_a t101_1_l t101_1_c t37_a t37_l t37_c t38 t39 true w__5 R B1
                    ) (
                      0 ≤ (((t101_1_l : Nat) : Int) : Int) ∧
                      (((t101_1_l : Nat) : Int) : Int) ≤ ((all_c : Nat) : Int) ∧
                      Calls Try.prog 14 ⟨[(.slice t101_1_a t101_1_l t101_1_c), (.slice (slAddr all_a all_c 0 1) ((Int.toNat ((t101_1_l : Nat) : Int)) - 0) (all_c - 0))]⟩ w__5 fun e w__6 =>
                        ∃ (t130 : Bool),
                        e = .returned (.bool t130) ∧
                        cond (!t130) (
                          S5_k6 head d all_a all_l all_c t101_0 t101_1_a t101_1_l t101_1_c t37_a t37_l t37_c t38 t39 true w__6 R B1
                        ) (
                          Calls Try.prog 16 ⟨[(.pointer t101_0)]⟩ w__6 fun e w__7 =>
                            ∃ (t135 : Int),
                            e = .returned (.int .i64 t135) ∧
                            S5_k6 head d all_a all_l all_c t101_0 t101_1_a t101_1_l t101_1_c t37_a t37_l t37_c t38 t39 (!decide ((t135 : Int) = ((t101_1_l : Nat) : Int))) w__7 R B1
                        )
                    )
                  )
                )
              )
        ) (
          B1 (j, (all_a, all_l, all_c), safe, (IntKind.i64.wrap (t39 + 1)), ()) ((((w.alloc (.cells ⟨[(.int .u8 0), (.slice none 0 0), (.int .i64 0)]⟩ 41)).setCell ⟨w.heap.size, 0, none⟩ (.int .u8 t42_0)).setCell ⟨w.heap.size, 1, none⟩ (.slice t42_1_a t42_1_l t42_1_c)).setCell ⟨w.heap.size, 2, none⟩ (.int .i64 t42_2))
        )
      )
    )
  )

def S5_L2 (head : Bool) (d : Option Addr) (j : Option Addr) (all_a : Option Addr) (all_l : Nat) (all_c : Nat) (safe : Int) (t37_a : Option Addr) (t37_l : Nat) (t37_c : Nat) (t38 : Int) (t39 : Int) (w : World) (R : Value → World → Prop) (B1 : (Option Addr) × (Option Addr × Nat × Nat) × (Int) × (Int) × Unit → World → Prop) : Prop :=
  cond (decide ((t39 : Int) < t38)) (
    S5_k3 head d j all_a all_l all_c safe t37_a t37_l t37_c t38 t39 w R B1
  ) (
    R (.bool head) w
  )

def S5_k1 (l_a : Option Addr) (l_l : Nat) (l_c : Nat) (head : Bool) (d : Option Addr) (j : Option Addr) (w : World) (R : Value → World → Prop) : Prop :=
  Calls Try.prog 17 ⟨[(.slice l_a l_l l_c)]⟩ (w.alloc (.cells ⟨[]⟩ 41)) fun e w_ =>
    ∃ (t32_a : Option Addr) (t32_l : Nat) (t32_c : Nat),
    e = .returned (.slice t32_a t32_l t32_c) ∧
    ∃ (t33_a : Option Addr) (t33_l : Nat) (t33_c : Nat) (w__1 : World),
    (Builtin.append_ #[38, 38] 38 ⟨[(.slice (some ⟨w.heap.size, 0, none⟩) 0 0), (.slice t32_a t32_l t32_c)]⟩).run Try.prog w_ = .ok (.slice t33_a t33_l t33_c) w__1 ∧
    ∃ (t37_a : Option Addr) (t37_l : Nat) (t37_c : Nat) (w__2 : World),
    (Builtin.append_ #[38, 38] 38 ⟨[(.slice t33_a t33_l t33_c), (.slice (some ⟨w__1.heap.size, 0, none⟩) 2 2)]⟩).run Try.prog (w__1.alloc (.cells ⟨[(.int .u8 3), (.slice none 0 0), (.int .i64 2), (.int .u8 3), (.slice none 0 0), (.int .i64 0)]⟩ 41)) = .ok (.slice t37_a t37_l t37_c) w__2 ∧
    ∃ (I : (Option Addr) × (Option Addr × Nat × Nat) × (Int) × (Int) × Unit → World → Prop) (μ : (Option Addr) × (Option Addr × Nat × Nat) × (Int) × (Int) × Unit → World → Nat),
    I (j, (none, 0, 0), 0, 0, ()) w__2 ∧
    ∀ (J : Env) (s : (Option Addr) × (Option Addr × Nat × Nat) × (Int) × (Int) × Unit) (w' : World), I s w' →
      S5_L2 head d s.1 s.2.1.1 s.2.1.2.1 s.2.1.2.2 s.2.2.1 t37_a t37_l t37_c ((t37_l : Nat) : Int) s.2.2.2.1 w' R (fun s' w'' => I s' w'' ∧ μ s' w'' < μ s w')

def S5_k0 (l_a : Option Addr) (l_l : Nat) (l_c : Nat) (head : Bool) (d : Option Addr) (j : Option Addr) (t29 : Bool) (w : World) (R : Value → World → Prop) : Prop :=
  cond t29 (
    R (.bool false) w
  ) (
    S5_k1 l_a l_l l_c head d j w R
  )

def S5 (l_a : Option Addr) (l_l : Nat) (l_c : Nat) (w : World) (R : Value → World → Prop) : Prop :=
  Calls Try.prog 8 ⟨[]⟩ w fun e w_ =>
    ∃ (t16 : Bool),
    e = .returned (.bool t16) ∧
    Calls Try.prog 9 ⟨[]⟩ w_ fun e w__1 =>
      ∃ (t17 : Option Addr),
      e = .returned (.pointer t17) ∧
      Calls Try.prog 10 ⟨[(.pointer t17)]⟩ w__1 fun e w__2 =>
        ∃ (t20_0 : Option Addr) (t20_1_a : Option Addr) (t20_1_l : Nat) (t20_1_c : Nat) (t20_2 : Int),
        e = .returned (.tuple ⟨[(.pointer t20_0), (.slice t20_1_a t20_1_l t20_1_c), (.int .i64 t20_2)]⟩) ∧
        cond (Option.isNone t20_0) (
          S5_k0 l_a l_l l_c t16 t17 t20_0 true w__2 R
        ) (
          S5_k0 l_a l_l l_c t16 t17 t20_0 (!decide ((t20_2 : Int) = 0)) w__2 R
        )

theorem S5_eq (l_a : Option Addr) (l_l : Nat) (l_c : Nat) (w : World) (R : Value → World → Prop) : Eng.R Try.prog ⟨cal, S5_nx⟩ 151 S5_ann [] (Try.f5.body.getD .skip) (bodyQ Try.prog #[.tmp 2] R) (argE [(.slice l_a l_l l_c)]) w = S5 l_a l_l l_c w R := by kernel_rfl
/-- A call of 'carfax/carfaxlaw16.JournalCrashes', by its condition. -/
theorem S5_calls {l_a : Option Addr} {l_l : Nat} {l_c : Nat} {w : World} {R : Value → World → Prop} (hS : S5 l_a l_l l_c w R) : Ret Try.prog 5 [(.slice l_a l_l l_c)] w R :=
  R_calls (C := ⟨cal, S5_nx⟩) cal_ok follows Try.func5 (c := Try.f5.body.getD .skip) (res := #[.tmp 2]) (n := 151) (by kernel_rfl) (by kernel_rfl) (by kernel_rfl) (by kernel_rfl) ((S5_eq l_a l_l l_c w R).mpr hS)

def S6_ann (p : List Nat) : Option LA := match p with
  | [0, 1, 0, 1, 1, 1, 1, 1, 1] => some ⟨[0, 3, 4, 5, 32], [(8, .one (.int .i64)), (9, .one (.int .i64)), (33, .one (.int .i64))]⟩
  | _ => none

def S6_nx (t : Nat) : Option (TypeId × TypeId) := none

def S6_k5 (head : Bool) (d : Option Addr) (n_ : Int) (size : Int) (w : World) (R : Value → World → Prop) : Prop :=
  Calls Try.prog 10 ⟨[(.pointer d)]⟩ w fun e w_ =>
    ∃ (t101_0 : Option Addr) (t101_1_a : Option Addr) (t101_1_l : Nat) (t101_1_c : Nat) (t101_2 : Int),
    e = .returned (.tuple ⟨[(.pointer t101_0), (.slice t101_1_a t101_1_l t101_1_c), (.int .i64 t101_2)]⟩) ∧
    cond head (
      cond (!(Option.isNone t101_0)) (
        cond (decide ((t101_2 : Int) = 0)) (
          cond (decide ((((t101_1_l : Nat) : Int) : Int) = n_)) (
            Calls Try.prog 16 ⟨[(.pointer t101_0)]⟩ w_ fun e w__1 =>
              ∃ (t122 : Int),
              e = .returned (.int .i64 t122) ∧
              cond (decide ((t122 : Int) = n_)) (
                Calls Try.prog 21 ⟨[(.pointer d)]⟩ w__1 fun e w__2 =>
                  ∃ (t128 : Int),
                  e = .returned (.int .i64 t128) ∧
                  R (.bool (decide ((t128 : Int) = size))) w__2
              ) (
                R (.bool false) w__1
              )
          ) (
            R (.bool false) w_
          )
        ) (
          R (.bool false) w_
        )
      ) (
        R (.bool false) w_
      )
    ) (
      R (.bool false) w_
    )

def S6_k8 (l_a : Option Addr) (l_l : Nat) (l_c : Nat) (head : Bool) (d : Option Addr) (j : Option Addr) (n_ : Int) (size : Int) (t32 : Int) (t33 : Int) (t97 : Bool) (w : World) (R : Value → World → Prop) (B1 : (Int) × (Int) × (Int) × Unit → World → Prop) : Prop :=
  cond t97 (
    R (.bool false) w
  ) (
    B1 (n_, size, (IntKind.i64.wrap (t33 + 1)), ()) w
  )

def S6_k7 (l_a : Option Addr) (l_l : Nat) (l_c : Nat) (head : Bool) (d : Option Addr) (j : Option Addr) (n_ : Int) (size : Int) (i : Int) (f : Int) (t32 : Int) (t33 : Int) (w : World) (R : Value → World → Prop) (B1 : (Int) × (Int) × (Int) × Unit → World → Prop) : Prop :=
  Calls Try.prog 20 ⟨[(.pointer d)]⟩ w fun e w_ =>
    ∃ (t70_0_a : Option Addr) (t70_0_l : Nat) (t70_0_c : Nat) (t70_1 : Int),
    e = .returned (.tuple ⟨[(.slice t70_0_a t70_0_l t70_0_c), (.int .i64 t70_1)]⟩) ∧
    ∃ (t77 : Addr),
    l_a = some t77 ∧
    0 ≤ (i : Int) ∧
    (i : Int) < ((l_l : Nat) : Int) ∧
    ∃ (t78_a : Option Addr) (t78_l : Nat) (t78_c : Nat),
    w_.cell? (t77.add (Int.toNat i * 1)) = some (.slice t78_a t78_l t78_c) ∧
    cond (!((decide ((f : Int) = 0)) == (decide ((((t78_l : Nat) : Int) : Int) ≤ 1000)))) (
      S6_k8 l_a l_l l_c head d j n_ size t32 t33 true w_ R B1
    ) (
      cond (!decide ((t70_1 : Int) = 0)) (
        S6_k8 l_a l_l l_c head d j n_ size t32 t33 true w_ R B1
      ) (
        cond (!decide ((((t70_0_l : Nat) : Int) : Int) = size)) (
          S6_k8 l_a l_l l_c head d j n_ size t32 t33 true w_ R B1
        ) (
          Calls Try.prog 16 ⟨[(.pointer j)]⟩ w_ fun e w__1 =>
            ∃ (t94 : Int),
            e = .returned (.int .i64 t94) ∧
            S6_k8 l_a l_l l_c head d j n_ size t32 t33 (!decide ((t94 : Int) = n_)) w__1 R B1
        )
      )
    )

def S6_k6 (l_a : Option Addr) (l_l : Nat) (l_c : Nat) (head : Bool) (d : Option Addr) (j : Option Addr) (n_ : Int) (size : Int) (i : Int) (t32 : Int) (t33 : Int) (w : World) (R : Value → World → Prop) (B1 : (Int) × (Int) × (Int) × Unit → World → Prop) : Prop :=
  ∃ (t49 : Addr),
  l_a = some t49 ∧
  0 ≤ (i : Int) ∧
  (i : Int) < ((l_l : Nat) : Int) ∧
  ∃ (t50_a : Option Addr) (t50_l : Nat) (t50_c : Nat),
  w.cell? (t49.add (Int.toNat i * 1)) = some (.slice t50_a t50_l t50_c) ∧
  Calls Try.prog 11 ⟨[(.pointer j), (.slice t50_a t50_l t50_c)]⟩ w fun e w_ =>
    ∃ (t51 : Int),
    e = .returned (.int .i64 t51) ∧
    ∃ (t54 : Addr),
    l_a = some t54 ∧
    0 ≤ (i : Int) ∧
    (i : Int) < ((l_l : Nat) : Int) ∧
    ∃ (t55_a : Option Addr) (t55_l : Nat) (t55_c : Nat),
    w_.cell? (t54.add (Int.toNat i * 1)) = some (.slice t55_a t55_l t55_c) ∧
    cond (decide ((((t55_l : Nat) : Int) : Int) ≤ 1000)) (
      ∃ (t63 : Addr),
      l_a = some t63 ∧
      0 ≤ (i : Int) ∧
      (i : Int) < ((l_l : Nat) : Int) ∧
      ∃ (t64_a : Option Addr) (t64_l : Nat) (t64_c : Nat),
      w_.cell? (t63.add (Int.toNat i * 1)) = some (.slice t64_a t64_l t64_c) ∧
      S6_k7 l_a l_l l_c head d j (IntKind.i64.wrap (n_ + 1)) (IntKind.i64.wrap (size + (IntKind.i64.wrap (((t64_l : Nat) : Int) + 4)))) i t51 t32 t33 w_ R B1
    ) (
      S6_k7 l_a l_l l_c head d j n_ size i t51 t32 t33 w_ R B1
    )

def S6_k4 (l_a : Option Addr) (l_l : Nat) (l_c : Nat) (head : Bool) (d : Option Addr) (j : Option Addr) (n_ : Int) (size : Int) (i : Int) (t32 : Int) (t33 : Int) (t45 : Bool) (w : World) (R : Value → World → Prop) (B1 : (Int) × (Int) × (Int) × Unit → World → Prop) : Prop :=
  cond t45 (
    S6_k5 head d n_ size w R
  ) (
    S6_k6 l_a l_l l_c head d j n_ size i t32 t33 w R B1
  )

def S6_k3 (l_a : Option Addr) (l_l : Nat) (l_c : Nat) (head : Bool) (d : Option Addr) (j : Option Addr) (n_ : Int) (size : Int) (t32 : Int) (t33 : Int) (w : World) (R : Value → World → Prop) (B1 : (Int) × (Int) × (Int) × Unit → World → Prop) : Prop :=
  cond (decide ((40 : Int) ≤ t33)) (
    S6_k4 l_a l_l l_c head d j n_ size t33 t32 t33 true w R B1
  ) (
    ∃ (t41 : Addr),
    l_a = some t41 ∧
    0 ≤ (t33 : Int) ∧
    (t33 : Int) < ((l_l : Nat) : Int) ∧
    ∃ (t42_a : Option Addr) (t42_l : Nat) (t42_c : Nat),
    w.cell? (t41.add (Int.toNat t33 * 1)) = some (.slice t42_a t42_l t42_c) ∧
    S6_k4 l_a l_l l_c head d j n_ size t33 t32 t33 (decide ((1100 : Int) < ((t42_l : Nat) : Int))) w R B1
  )

def S6_L2 (l_a : Option Addr) (l_l : Nat) (l_c : Nat) (head : Bool) (d : Option Addr) (j : Option Addr) (n_ : Int) (size : Int) (t32 : Int) (t33 : Int) (w : World) (R : Value → World → Prop) (B1 : (Int) × (Int) × (Int) × Unit → World → Prop) : Prop :=
  cond (decide ((t33 : Int) < t32)) (
    S6_k3 l_a l_l l_c head d j n_ size t32 t33 w R B1
  ) (
    S6_k5 head d n_ size w R
  )

def S6_k1 (l_a : Option Addr) (l_l : Nat) (l_c : Nat) (head : Bool) (d : Option Addr) (j : Option Addr) (w : World) (R : Value → World → Prop) : Prop :=
  ∃ (I : (Int) × (Int) × (Int) × Unit → World → Prop) (μ : (Int) × (Int) × (Int) × Unit → World → Nat),
  I (0, 0, 0, ()) w ∧
  ∀ (J : Env) (s : (Int) × (Int) × (Int) × Unit) (w' : World), I s w' →
    S6_L2 l_a l_l l_c head d j s.1 s.2.1 ((l_l : Nat) : Int) s.2.2.1 w' R (fun s' w'' => I s' w'' ∧ μ s' w'' < μ s w')

def S6_k0 (l_a : Option Addr) (l_l : Nat) (l_c : Nat) (head : Bool) (d : Option Addr) (j : Option Addr) (t30 : Bool) (w : World) (R : Value → World → Prop) : Prop :=
  cond t30 (
    R (.bool false) w
  ) (
    S6_k1 l_a l_l l_c head d j w R
  )

def S6 (l_a : Option Addr) (l_l : Nat) (l_c : Nat) (w : World) (R : Value → World → Prop) : Prop :=
  Calls Try.prog 8 ⟨[]⟩ w fun e w_ =>
    ∃ (t17 : Bool),
    e = .returned (.bool t17) ∧
    Calls Try.prog 9 ⟨[]⟩ w_ fun e w__1 =>
      ∃ (t18 : Option Addr),
      e = .returned (.pointer t18) ∧
      Calls Try.prog 10 ⟨[(.pointer t18)]⟩ w__1 fun e w__2 =>
        ∃ (t21_0 : Option Addr) (t21_1_a : Option Addr) (t21_1_l : Nat) (t21_1_c : Nat) (t21_2 : Int),
        e = .returned (.tuple ⟨[(.pointer t21_0), (.slice t21_1_a t21_1_l t21_1_c), (.int .i64 t21_2)]⟩) ∧
        cond (Option.isNone t21_0) (
          S6_k0 l_a l_l l_c t17 t18 t21_0 true w__2 R
        ) (
          S6_k0 l_a l_l l_c t17 t18 t21_0 (!decide ((t21_2 : Int) = 0)) w__2 R
        )

theorem S6_eq (l_a : Option Addr) (l_l : Nat) (l_c : Nat) (w : World) (R : Value → World → Prop) : Eng.R Try.prog ⟨cal, S6_nx⟩ 132 S6_ann [] (Try.f6.body.getD .skip) (bodyQ Try.prog #[.tmp 2] R) (argE [(.slice l_a l_l l_c)]) w = S6 l_a l_l l_c w R := by kernel_rfl
/-- A call of 'carfax/carfaxlaw16.JournalLong', by its condition. -/
theorem S6_calls {l_a : Option Addr} {l_l : Nat} {l_c : Nat} {w : World} {R : Value → World → Prop} (hS : S6 l_a l_l l_c w R) : Ret Try.prog 6 [(.slice l_a l_l l_c)] w R :=
  R_calls (C := ⟨cal, S6_nx⟩) cal_ok follows Try.func6 (c := Try.f6.body.getD .skip) (res := #[.tmp 2]) (n := 132) (by kernel_rfl) (by kernel_rfl) (by kernel_rfl) (by kernel_rfl) ((S6_eq l_a l_l l_c w R).mpr hS)

def S7_ann (p : List Nat) : Option LA := match p with
  | [0, 1, 0, 1, 1, 1, 1, 1, 1, 1, 1, 1] => some ⟨[5, 6, 7, 70, 71], [(8, .one .pointer), (11, .one .pointer), (72, .one (.int .i64))]⟩
  | _ => none

def S7_nx (t : Nat) : Option (TypeId × TypeId) := none

def S7_k7 (head : Bool) (d : Option Addr) (v : Option Addr) (j : Option Addr) (w_ : Option Addr) (t70_a : Option Addr) (t70_l : Nat) (t70_c : Nat) (t71 : Int) (t72 : Int) (t193 : Bool) (w : World) (R : Value → World → Prop) (B1 : (Option Addr) × (Option Addr) × (Int) × Unit → World → Prop) : Prop :=
  cond t193 (
    R (.bool false) w
  ) (
    B1 (j, w_, (IntKind.i64.wrap (t72 + 1)), ()) w
  )

def S7_k6 (head : Bool) (d : Option Addr) (v : Option Addr) (j : Option Addr) (w_ : Option Addr) (t70_a : Option Addr) (t70_l : Nat) (t70_c : Nat) (t71 : Int) (t72 : Int) (w : World) (R : Value → World → Prop) (B1 : (Option Addr) × (Option Addr) × (Int) × Unit → World → Prop) : Prop :=
  Calls Try.prog 20 ⟨[(.pointer d)]⟩ w fun e w__1 =>
    ∃ (t159_0_a : Option Addr) (t159_0_l : Nat) (t159_0_c : Nat) (t159_1 : Int),
    e = .returned (.tuple ⟨[(.slice t159_0_a t159_0_l t159_0_c), (.int .i64 t159_1)]⟩) ∧
    Calls Try.prog 29 ⟨[(.pointer v)]⟩ w__1 fun e w__2 =>
      ∃ (t164_0 : ByteArray) (t164_1 : Int),
      e = .returned (.tuple ⟨[(.string t164_0), (.int .i64 t164_1)]⟩) ∧
      ∃ (t168 : ByteArray) (w__3 : World),
      (convert 30 9 (.slice t159_0_a t159_0_l t159_0_c)).run Try.prog w__2.drew = .ok (.string t168) w__3 ∧
      cond (!decide ((t168 : ByteArray) = t164_0)) (
        (
          (
            S7_k7 head d v j w_ t70_a t70_l t70_c t71 t72 true w__3 R B1
          ) ∧
          (
            S7_k7 head d v j w_ t70_a t70_l t70_c t71 t72 true w__3 R B1
          )
        ) ∧
        (
          (
            S7_k7 head d v j w_ t70_a t70_l t70_c t71 t72 true w__3 R B1
          ) ∧
          (
            S7_k7 head d v j w_ t70_a t70_l t70_c t71 t72 true w__3 R B1
          )
        )
      ) (
        cond (!decide ((t159_1 : Int) = t164_1)) (
          (
            (
              S7_k7 head d v j w_ t70_a t70_l t70_c t71 t72 true w__3 R B1
            ) ∧
            (
              S7_k7 head d v j w_ t70_a t70_l t70_c t71 t72 true w__3 R B1
            )
          ) ∧
          (
            (
              S7_k7 head d v j w_ t70_a t70_l t70_c t71 t72 true w__3 R B1
            ) ∧
            (
              S7_k7 head d v j w_ t70_a t70_l t70_c t71 t72 true w__3 R B1
            )
          )
        ) (
          ∃ (t180 : Addr),
          w_ = some t180 ∧
          (
            Calls Try.prog 16 ⟨[(.pointer j)]⟩ w__3 fun e w__4 =>
              ∃ (t178 : Int),
              e = .returned (.int .i64 t178) ∧
              ∃ (t182 : Int),
              w__4.cell? (t180.add 1) = some (.int .i64 t182) ∧
              cond (!decide ((t178 : Int) = t182)) (
                (
                  S7_k7 head d v j w_ t70_a t70_l t70_c t71 t72 true w__4 R B1
                ) ∧
                (
                  S7_k7 head d v j w_ t70_a t70_l t70_c t71 t72 true w__4 R B1
                )
              ) (
                ∃ (t189 : Addr),
                v = some t189 ∧
                (
                  Calls Try.prog 21 ⟨[(.pointer d)]⟩ w__4 fun e w__5 =>
                    ∃ (t187 : Int),
                    e = .returned (.int .i64 t187) ∧
                    ∃ (t191 : Int),
                    w__5.cell? (t189.add 1) = some (.int .i64 t191) ∧
                    S7_k7 head d v j w_ t70_a t70_l t70_c t71 t72 (!decide ((t187 : Int) = t191)) w__5 R B1
                ) ∧
                (
                  ∃ (t191_1 : Int),
                  w__4.cell? (t189.add 1) = some (.int .i64 t191_1) ∧
                  Calls Try.prog 21 ⟨[(.pointer d)]⟩ w__4 fun e w__6 =>
                    ∃ (t187_1 : Int),
                    e = .returned (.int .i64 t187_1) ∧
                    S7_k7 head d v j w_ t70_a t70_l t70_c t71 t72 (!decide ((t187_1 : Int) = t191_1)) w__6 R B1
                )
              )
          ) ∧
          (
            ∃ (t182_1 : Int),
            w__3.cell? (t180.add 1) = some (.int .i64 t182_1) ∧
            Calls Try.prog 16 ⟨[(.pointer j)]⟩ w__3 fun e w__7 =>
              ∃ (t178_1 : Int),
              e = .returned (.int .i64 t178_1) ∧
              cond (!decide ((t178_1 : Int) = t182_1)) (
                (
                  S7_k7 head d v j w_ t70_a t70_l t70_c t71 t72 true w__7 R B1
                ) ∧
                (
                  S7_k7 head d v j w_ t70_a t70_l t70_c t71 t72 true w__7 R B1
                )
              ) (
                ∃ (t189_1 : Addr),
                v = some t189_1 ∧
                (
                  Calls Try.prog 21 ⟨[(.pointer d)]⟩ w__7 fun e w__8 =>
                    ∃ (t187_2 : Int),
                    e = .returned (.int .i64 t187_2) ∧
                    ∃ (t191_2 : Int),
                    w__8.cell? (t189_1.add 1) = some (.int .i64 t191_2) ∧
                    S7_k7 head d v j w_ t70_a t70_l t70_c t71 t72 (!decide ((t187_2 : Int) = t191_2)) w__8 R B1
                ) ∧
                (
                  ∃ (t191_3 : Int),
                  w__7.cell? (t189_1.add 1) = some (.int .i64 t191_3) ∧
                  Calls Try.prog 21 ⟨[(.pointer d)]⟩ w__7 fun e w__9 =>
                    ∃ (t187_3 : Int),
                    e = .returned (.int .i64 t187_3) ∧
                    S7_k7 head d v j w_ t70_a t70_l t70_c t71 t72 (!decide ((t187_3 : Int) = t191_3)) w__9 R B1
                )
              )
          )
        )
      )

def S7_k5 (head : Bool) (d : Option Addr) (v : Option Addr) (j : Option Addr) (w_ : Option Addr) (t70_a : Option Addr) (t70_l : Nat) (t70_c : Nat) (t71 : Int) (t72 : Int) (t98 : Bool) (w : World) (R : Value → World → Prop) (B1 : (Option Addr) × (Option Addr) × (Int) × Unit → World → Prop) : Prop :=
  cond t98 (
    R (.bool false) w
  ) (
    S7_k6 head d v j w_ t70_a t70_l t70_c t71 t72 w R B1
  )

def S7_k9 (head : Bool) (d : Option Addr) (v : Option Addr) (i : Option Addr) (k : Option Addr) (t70_a : Option Addr) (t70_l : Nat) (t70_c : Nat) (t71 : Int) (t72 : Int) (w : World) (R : Value → World → Prop) (B1 : (Option Addr) × (Option Addr) × (Int) × Unit → World → Prop) : Prop :=
  S7_k6 head d v i k t70_a t70_l t70_c t71 t72 w R B1

def S7_k8 (head : Bool) (d : Option Addr) (v : Option Addr) (i : Option Addr) (k : Option Addr) (t70_a : Option Addr) (t70_l : Nat) (t70_c : Nat) (t71 : Int) (t72 : Int) (t154 : Bool) (w : World) (R : Value → World → Prop) (B1 : (Option Addr) × (Option Addr) × (Int) × Unit → World → Prop) : Prop :=
  cond t154 (
    R (.bool false) w
  ) (
    S7_k9 head d v i k t70_a t70_l t70_c t71 t72 w R B1
  )

def S7_k4 (head : Bool) (d : Option Addr) (v : Option Addr) (j : Option Addr) (w_ : Option Addr) (t70_a : Option Addr) (t70_l : Nat) (t70_c : Nat) (t71 : Int) (t72 : Int) (w : World) (R : Value → World → Prop) (B1 : (Option Addr) × (Option Addr) × (Int) × Unit → World → Prop) : Prop :=
  ∃ (t74 : Addr),
  t70_a = some t74 ∧
  0 ≤ (t72 : Int) ∧
  (t72 : Int) < ((t70_l : Nat) : Int) ∧
  ∃ (t75_0 : Int),
  w.cell? (t74.add (Int.toNat t72 * 3)) = some (.int .u8 t75_0) ∧
  ∃ (t75_1_a : Option Addr) (t75_1_l : Nat) (t75_1_c : Nat),
  w.cell? ((t74.add (Int.toNat t72 * 3)).add 1) = some (.slice t75_1_a t75_1_l t75_1_c) ∧
  ∃ (t75_2 : Int),
  w.cell? ((t74.add (Int.toNat t72 * 3)).add 2) = some (.int .i64 t75_2) ∧
  (∃ u, (w.alloc (.cells ⟨[(.int .u8 0), (.slice none 0 0), (.int .i64 0)]⟩ 41)).cell? ⟨w.heap.size, 0, none⟩ = some u) ∧
  (w.alloc (.cells ⟨[(.int .u8 0), (.slice none 0 0), (.int .i64 0)]⟩ 41)).frozen? ⟨w.heap.size, 0, none⟩ = false ∧
  (∃ u, ((w.alloc (.cells ⟨[(.int .u8 0), (.slice none 0 0), (.int .i64 0)]⟩ 41)).setCell ⟨w.heap.size, 0, none⟩ (.int .u8 t75_0)).cell? ⟨w.heap.size, 1, none⟩ = some u) ∧
  ((w.alloc (.cells ⟨[(.int .u8 0), (.slice none 0 0), (.int .i64 0)]⟩ 41)).setCell ⟨w.heap.size, 0, none⟩ (.int .u8 t75_0)).frozen? ⟨w.heap.size, 1, none⟩ = false ∧
  (∃ u, (((w.alloc (.cells ⟨[(.int .u8 0), (.slice none 0 0), (.int .i64 0)]⟩ 41)).setCell ⟨w.heap.size, 0, none⟩ (.int .u8 t75_0)).setCell ⟨w.heap.size, 1, none⟩ (.slice t75_1_a t75_1_l t75_1_c)).cell? ⟨w.heap.size, 2, none⟩ = some u) ∧
  (((w.alloc (.cells ⟨[(.int .u8 0), (.slice none 0 0), (.int .i64 0)]⟩ 41)).setCell ⟨w.heap.size, 0, none⟩ (.int .u8 t75_0)).setCell ⟨w.heap.size, 1, none⟩ (.slice t75_1_a t75_1_l t75_1_c)).frozen? ⟨w.heap.size, 2, none⟩ = false ∧
  ∃ (t77 : Int),
  ((((w.alloc (.cells ⟨[(.int .u8 0), (.slice none 0 0), (.int .i64 0)]⟩ 41)).setCell ⟨w.heap.size, 0, none⟩ (.int .u8 t75_0)).setCell ⟨w.heap.size, 1, none⟩ (.slice t75_1_a t75_1_l t75_1_c)).setCell ⟨w.heap.size, 2, none⟩ (.int .i64 t75_2)).cell? ⟨w.heap.size, 0, none⟩ = some (.int .u8 t77) ∧
  (5 : Int) ≠ 0 ∧
  cond (decide (((Int.tmod t77 5) : Int) = 0)) (
    ∃ (t92_a : Option Addr) (t92_l : Nat) (t92_c : Nat),
    ((((w.alloc (.cells ⟨[(.int .u8 0), (.slice none 0 0), (.int .i64 0)]⟩ 41)).setCell ⟨w.heap.size, 0, none⟩ (.int .u8 t75_0)).setCell ⟨w.heap.size, 1, none⟩ (.slice t75_1_a t75_1_l t75_1_c)).setCell ⟨w.heap.size, 2, none⟩ (.int .i64 t75_2)).drew.cell? ⟨w.heap.size, 1, none⟩ = some (.slice t92_a t92_l t92_c) ∧
    (
      Calls Try.prog 11 ⟨[(.pointer j), (.slice t92_a t92_l t92_c)]⟩ ((((w.alloc (.cells ⟨[(.int .u8 0), (.slice none 0 0), (.int .i64 0)]⟩ 41)).setCell ⟨w.heap.size, 0, none⟩ (.int .u8 t75_0)).setCell ⟨w.heap.size, 1, none⟩ (.slice t75_1_a t75_1_l t75_1_c)).setCell ⟨w.heap.size, 2, none⟩ (.int .i64 t75_2)).drew fun e w__1 =>
        ∃ (t93 : Int),
        e = .returned (.int .i64 t93) ∧
        ∃ (t96_a : Option Addr) (t96_l : Nat) (t96_c : Nat),
        w__1.cell? ⟨w.heap.size, 1, none⟩ = some (.slice t96_a t96_l t96_c) ∧
        Calls Try.prog 25 ⟨[(.pointer w_), (.slice t96_a t96_l t96_c)]⟩ w__1 fun e w__2 =>
          ∃ (t97 : Int),
          e = .returned (.int .i64 t97) ∧
          S7_k5 head d v j w_ t70_a t70_l t70_c t71 t72 (!decide ((t93 : Int) = t97)) w__2 R B1
    ) ∧
    (
      ∃ (t96_a_1 : Option Addr) (t96_l_1 : Nat) (t96_c_1 : Nat),
      ((((w.alloc (.cells ⟨[(.int .u8 0), (.slice none 0 0), (.int .i64 0)]⟩ 41)).setCell ⟨w.heap.size, 0, none⟩ (.int .u8 t75_0)).setCell ⟨w.heap.size, 1, none⟩ (.slice t75_1_a t75_1_l t75_1_c)).setCell ⟨w.heap.size, 2, none⟩ (.int .i64 t75_2)).drew.cell? ⟨w.heap.size, 1, none⟩ = some (.slice t96_a_1 t96_l_1 t96_c_1) ∧
      Calls Try.prog 11 ⟨[(.pointer j), (.slice t92_a t92_l t92_c)]⟩ ((((w.alloc (.cells ⟨[(.int .u8 0), (.slice none 0 0), (.int .i64 0)]⟩ 41)).setCell ⟨w.heap.size, 0, none⟩ (.int .u8 t75_0)).setCell ⟨w.heap.size, 1, none⟩ (.slice t75_1_a t75_1_l t75_1_c)).setCell ⟨w.heap.size, 2, none⟩ (.int .i64 t75_2)).drew fun e w__3 =>
        ∃ (t93_1 : Int),
        e = .returned (.int .i64 t93_1) ∧
        Calls Try.prog 25 ⟨[(.pointer w_), (.slice t96_a_1 t96_l_1 t96_c_1)]⟩ w__3 fun e w__4 =>
          ∃ (t97_1 : Int),
          e = .returned (.int .i64 t97_1) ∧
          S7_k5 head d v j w_ t70_a t70_l t70_c t71 t72 (!decide ((t93_1 : Int) = t97_1)) w__4 R B1
    )
  ) (
    cond (decide (((Int.tmod t77 5) : Int) = 1)) (
      Calls Try.prog 12 ⟨[(.pointer j)]⟩ ((((w.alloc (.cells ⟨[(.int .u8 0), (.slice none 0 0), (.int .i64 0)]⟩ 41)).setCell ⟨w.heap.size, 0, none⟩ (.int .u8 t75_0)).setCell ⟨w.heap.size, 1, none⟩ (.slice t75_1_a t75_1_l t75_1_c)).setCell ⟨w.heap.size, 2, none⟩ (.int .i64 t75_2)) fun e w__5 =>
        ∃ (t102 : Int),
        e = .returned (.int .i64 t102) ∧
        Calls Try.prog 26 ⟨[(.pointer v)]⟩ w__5 fun e w__6 =>
          ∃ (t104 : Int),
          e = .returned (.int .i64 t104) ∧
          cond (!decide ((t102 : Int) = t104)) (
            R (.bool false) w__6
          ) (
            S7_k6 head d v j w_ t70_a t70_l t70_c t71 t72 w__6 R B1
          )
    ) (
      cond (decide (((Int.tmod t77 5) : Int) = 2)) (
        ∃ (t110 : Int),
        ((((w.alloc (.cells ⟨[(.int .u8 0), (.slice none 0 0), (.int .i64 0)]⟩ 41)).setCell ⟨w.heap.size, 0, none⟩ (.int .u8 t75_0)).setCell ⟨w.heap.size, 1, none⟩ (.slice t75_1_a t75_1_l t75_1_c)).setCell ⟨w.heap.size, 2, none⟩ (.int .i64 t75_2)).cell? ⟨w.heap.size, 2, none⟩ = some (.int .i64 t110) ∧
        Calls Try.prog 19 ⟨[(.pointer d), (.int .i64 t110)]⟩ ((((w.alloc (.cells ⟨[(.int .u8 0), (.slice none 0 0), (.int .i64 0)]⟩ 41)).setCell ⟨w.heap.size, 0, none⟩ (.int .u8 t75_0)).setCell ⟨w.heap.size, 1, none⟩ (.slice t75_1_a t75_1_l t75_1_c)).setCell ⟨w.heap.size, 2, none⟩ (.int .i64 t75_2)) fun e w__7 =>
          e = .returned (.tuple ⟨[]⟩) ∧
          ∃ (t114 : Int),
          w__7.cell? ⟨w.heap.size, 2, none⟩ = some (.int .i64 t114) ∧
          Calls Try.prog 27 ⟨[(.pointer v), (.int .i64 t114)]⟩ w__7 fun e w__8 =>
            e = .returned (.tuple ⟨[]⟩) ∧
            S7_k6 head d v j w_ t70_a t70_l t70_c t71 t72 w__8 R B1
      ) (
        cond (decide (((Int.tmod t77 5) : Int) = 3)) (
          ∃ (t120 : Int),
          ((((w.alloc (.cells ⟨[(.int .u8 0), (.slice none 0 0), (.int .i64 0)]⟩ 41)).setCell ⟨w.heap.size, 0, none⟩ (.int .u8 t75_0)).setCell ⟨w.heap.size, 1, none⟩ (.slice t75_1_a t75_1_l t75_1_c)).setCell ⟨w.heap.size, 2, none⟩ (.int .i64 t75_2)).cell? ⟨w.heap.size, 2, none⟩ = some (.int .i64 t120) ∧
          Calls Try.prog 13 ⟨[(.pointer d), (.int .i64 t120)]⟩ ((((w.alloc (.cells ⟨[(.int .u8 0), (.slice none 0 0), (.int .i64 0)]⟩ 41)).setCell ⟨w.heap.size, 0, none⟩ (.int .u8 t75_0)).setCell ⟨w.heap.size, 1, none⟩ (.slice t75_1_a t75_1_l t75_1_c)).setCell ⟨w.heap.size, 2, none⟩ (.int .i64 t75_2)) fun e w__9 =>
            e = .returned (.tuple ⟨[]⟩) ∧
            ∃ (t124 : Int),
            w__9.cell? ⟨w.heap.size, 2, none⟩ = some (.int .i64 t124) ∧
            Calls Try.prog 28 ⟨[(.pointer v), (.int .i64 t124)]⟩ w__9 fun e w__10 =>
              e = .returned (.tuple ⟨[]⟩) ∧
              Calls Try.prog 10 ⟨[(.pointer d)]⟩ w__10 fun e w__11 =>
                ∃ (t128_0 : Option Addr) (t128_1_a : Option Addr) (t128_1_l : Nat) (t128_1_c : Nat) (t128_2 : Int),
                e = .returned (.tuple ⟨[(.pointer t128_0), (.slice t128_1_a t128_1_l t128_1_c), (.int .i64 t128_2)]⟩) ∧
                Calls Try.prog 24 ⟨[(.pointer v)]⟩ w__11 fun e w__12 =>
                  ∃ (t134_0 : Option Addr) (t134_1_a : Option Addr) (t134_1_l : Nat) (t134_1_c : Nat) (t134_2 : Int),
                  e = .returned (.tuple ⟨[(.pointer t134_0), (.slice t134_1_a t134_1_l t134_1_c), (.int .i64 t134_2)]⟩) ∧
                  cond (Option.isNone t128_0) (
                    S7_k8 head d v t128_0 t134_0 t70_a t70_l t70_c t71 t72 true w__12 R B1
                  ) (
                    cond (Option.isNone t134_0) (
                      S7_k8 head d v t128_0 t134_0 t70_a t70_l t70_c t71 t72 true w__12 R B1
                    ) (
                      cond (!decide ((t128_2 : Int) = t134_2)) (
                        S7_k8 head d v t128_0 t134_0 t70_a t70_l t70_c t71 t72 true w__12 R B1
                      ) (
                        Calls Try.prog 14 ⟨[(.slice t128_1_a t128_1_l t128_1_c), (.slice t134_1_a t134_1_l t134_1_c)]⟩ w__12 fun e w__13 =>
                          ∃ (t152 : Bool),
                          e = .returned (.bool t152) ∧
                          S7_k8 head d v t128_0 t134_0 t70_a t70_l t70_c t71 t72 (!t152) w__13 R B1
                      )
                    )
                  )
        ) (
          ∃ (t81_a : Option Addr) (t81_l : Nat) (t81_c : Nat),
          ((((w.alloc (.cells ⟨[(.int .u8 0), (.slice none 0 0), (.int .i64 0)]⟩ 41)).setCell ⟨w.heap.size, 0, none⟩ (.int .u8 t75_0)).setCell ⟨w.heap.size, 1, none⟩ (.slice t75_1_a t75_1_l t75_1_c)).setCell ⟨w.heap.size, 2, none⟩ (.int .i64 t75_2)).cell? ⟨w.heap.size, 1, none⟩ = some (.slice t81_a t81_l t81_c) ∧
          Calls Try.prog 15 ⟨[(.pointer d), (.slice t81_a t81_l t81_c)]⟩ ((((w.alloc (.cells ⟨[(.int .u8 0), (.slice none 0 0), (.int .i64 0)]⟩ 41)).setCell ⟨w.heap.size, 0, none⟩ (.int .u8 t75_0)).setCell ⟨w.heap.size, 1, none⟩ (.slice t75_1_a t75_1_l t75_1_c)).setCell ⟨w.heap.size, 2, none⟩ (.int .i64 t75_2)) fun e w__14 =>
            ∃ (t82 : Int),
            e = .returned (.int .i64 t82) ∧
            ∃ (t85_a : Option Addr) (t85_l : Nat) (t85_c : Nat),
            w__14.cell? ⟨w.heap.size, 1, none⟩ = some (.slice t85_a t85_l t85_c) ∧
            ∃ (t86 : ByteArray) (w__15 : World),
            (convert 30 9 (.slice t85_a t85_l t85_c)).run Try.prog w__14 = .ok (.string t86) w__15 ∧
            Calls Try.prog 23 ⟨[(.pointer v), (.string t86)]⟩ w__15 fun e w__16 =>
              ∃ (t87 : Int),
              e = .returned (.int .i64 t87) ∧
              S7_k6 head d v j w_ t70_a t70_l t70_c t71 t72 w__16 R B1
        )
      )
    )
  )

def S7_L3 (head : Bool) (d : Option Addr) (v : Option Addr) (j : Option Addr) (w_ : Option Addr) (t70_a : Option Addr) (t70_l : Nat) (t70_c : Nat) (t71 : Int) (t72 : Int) (w : World) (R : Value → World → Prop) (B1 : (Option Addr) × (Option Addr) × (Int) × Unit → World → Prop) : Prop :=
  cond (decide ((t72 : Int) < t71)) (
    S7_k4 head d v j w_ t70_a t70_l t70_c t71 t72 w R B1
  ) (
    R (.bool head) w
  )

def S7_k2 (l_a : Option Addr) (l_l : Nat) (l_c : Nat) (head : Bool) (d : Option Addr) (v : Option Addr) (j : Option Addr) (w_ : Option Addr) (w : World) (R : Value → World → Prop) : Prop :=
  Calls Try.prog 17 ⟨[(.slice l_a l_l l_c)]⟩ w fun e w__1 =>
    ∃ (t70_a : Option Addr) (t70_l : Nat) (t70_c : Nat),
    e = .returned (.slice t70_a t70_l t70_c) ∧
    ∃ (I : (Option Addr) × (Option Addr) × (Int) × Unit → World → Prop) (μ : (Option Addr) × (Option Addr) × (Int) × Unit → World → Nat),
    I (j, w_, 0, ()) w__1 ∧
    ∀ (J : Env) (s : (Option Addr) × (Option Addr) × (Int) × Unit) (w' : World), I s w' →
      S7_L3 head d v s.1 s.2.1 t70_a t70_l t70_c ((t70_l : Nat) : Int) s.2.2.1 w' R (fun s' w'' => I s' w'' ∧ μ s' w'' < μ s w')

def S7_k1 (l_a : Option Addr) (l_l : Nat) (l_c : Nat) (head : Bool) (d : Option Addr) (v : Option Addr) (j : Option Addr) (w_ : Option Addr) (t68 : Bool) (w : World) (R : Value → World → Prop) : Prop :=
  cond t68 (
    R (.bool false) w
  ) (
    S7_k2 l_a l_l l_c head d v j w_ w R
  )

def S7_k0 (first_a : Option Addr) (first_l : Nat) (first_c : Nat) (l_a : Option Addr) (l_l : Nat) (l_c : Nat) (head : Bool) (d : Option Addr) (v : Option Addr) (w : World) (R : Value → World → Prop) : Prop :=
  Calls Try.prog 15 ⟨[(.pointer d), (.slice first_a first_l first_c)]⟩ w fun e w_ =>
    ∃ (t35 : Int),
    e = .returned (.int .i64 t35) ∧
    ∃ (t38 : ByteArray) (w__1 : World),
    (convert 30 9 (.slice first_a first_l first_c)).run Try.prog w_ = .ok (.string t38) w__1 ∧
    Calls Try.prog 23 ⟨[(.pointer v), (.string t38)]⟩ w__1 fun e w__2 =>
      ∃ (t39 : Int),
      e = .returned (.int .i64 t39) ∧
      Calls Try.prog 10 ⟨[(.pointer d)]⟩ w__2 fun e w__3 =>
        ∃ (t42_0 : Option Addr) (t42_1_a : Option Addr) (t42_1_l : Nat) (t42_1_c : Nat) (t42_2 : Int),
        e = .returned (.tuple ⟨[(.pointer t42_0), (.slice t42_1_a t42_1_l t42_1_c), (.int .i64 t42_2)]⟩) ∧
        Calls Try.prog 24 ⟨[(.pointer v)]⟩ w__3 fun e w__4 =>
          ∃ (t48_0 : Option Addr) (t48_1_a : Option Addr) (t48_1_l : Nat) (t48_1_c : Nat) (t48_2 : Int),
          e = .returned (.tuple ⟨[(.pointer t48_0), (.slice t48_1_a t48_1_l t48_1_c), (.int .i64 t48_2)]⟩) ∧
          cond (Option.isNone t42_0) (
            S7_k1 l_a l_l l_c head d v t42_0 t48_0 true w__4 R
          ) (
            cond (Option.isNone t48_0) (
              S7_k1 l_a l_l l_c head d v t42_0 t48_0 true w__4 R
            ) (
              cond (!decide ((t42_2 : Int) = t48_2)) (
                S7_k1 l_a l_l l_c head d v t42_0 t48_0 true w__4 R
              ) (
                Calls Try.prog 14 ⟨[(.slice t42_1_a t42_1_l t42_1_c), (.slice t48_1_a t48_1_l t48_1_c)]⟩ w__4 fun e w__5 =>
                  ∃ (t66 : Bool),
                  e = .returned (.bool t66) ∧
                  S7_k1 l_a l_l l_c head d v t42_0 t48_0 (!t66) w__5 R
              )
            )
          )

def S7 (first_a : Option Addr) (first_l : Nat) (first_c : Nat) (l_a : Option Addr) (l_l : Nat) (l_c : Nat) (w : World) (R : Value → World → Prop) : Prop :=
  Calls Try.prog 8 ⟨[]⟩ w fun e w_ =>
    ∃ (t26 : Bool),
    e = .returned (.bool t26) ∧
    Calls Try.prog 9 ⟨[]⟩ w_ fun e w__1 =>
      ∃ (t27 : Option Addr),
      e = .returned (.pointer t27) ∧
      Calls Try.prog 22 ⟨[]⟩ w__1 fun e w__2 =>
        ∃ (t28 : Option Addr),
        e = .returned (.pointer t28) ∧
        cond (decide ((5000 : Int) < ((first_l : Nat) : Int))) (
          R (.bool t26) w__2
        ) (
          S7_k0 first_a first_l first_c l_a l_l l_c t26 t27 t28 w__2 R
        )

theorem S7_eq (first_a : Option Addr) (first_l : Nat) (first_c : Nat) (l_a : Option Addr) (l_l : Nat) (l_c : Nat) (w : World) (R : Value → World → Prop) : Eng.R Try.prog ⟨cal, S7_nx⟩ 196 S7_ann [] (Try.f7.body.getD .skip) (bodyQ Try.prog #[.tmp 4] R) (argE [(.slice first_a first_l first_c), (.slice l_a l_l l_c)]) w = S7 first_a first_l first_c l_a l_l l_c w R := by kernel_rfl
/-- A call of 'carfax/carfaxlaw16.JournalPlays', by its condition. -/
theorem S7_calls {first_a : Option Addr} {first_l : Nat} {first_c : Nat} {l_a : Option Addr} {l_l : Nat} {l_c : Nat} {w : World} {R : Value → World → Prop} (hS : S7 first_a first_l first_c l_a l_l l_c w R) : Ret Try.prog 7 [(.slice first_a first_l first_c), (.slice l_a l_l l_c)] w R :=
  R_calls (C := ⟨cal, S7_nx⟩) cal_ok follows Try.func7 (c := Try.f7.body.getD .skip) (res := #[.tmp 4]) (n := 196) (by kernel_rfl) (by kernel_rfl) (by kernel_rfl) (by kernel_rfl) ((S7_eq first_a first_l first_c l_a l_l l_c w R).mpr hS)

def S8_ann (p : List Nat) : Option LA :=
  none

def S8_nx (t : Nat) : Option (TypeId × TypeId) := none

def S8_k1 (d : Option Addr) (w : World) (R : Value → World → Prop) : Prop :=
  Calls Try.prog 13 ⟨[(.pointer d), (.int .i64 3)]⟩ w fun e w_ =>
    e = .returned (.tuple ⟨[]⟩) ∧
    Calls Try.prog 10 ⟨[(.pointer d)]⟩ w_ fun e w__1 =>
      ∃ (t51_0 : Option Addr) (t51_1_a : Option Addr) (t51_1_l : Nat) (t51_1_c : Nat) (t51_2 : Int),
      e = .returned (.tuple ⟨[(.pointer t51_0), (.slice t51_1_a t51_1_l t51_1_c), (.int .i64 t51_2)]⟩) ∧
      Calls Try.prog 20 ⟨[(.pointer d)]⟩ w__1 fun e w__2 =>
        ∃ (t57_0_a : Option Addr) (t57_0_l : Nat) (t57_0_c : Nat) (t57_1 : Int),
        e = .returned (.tuple ⟨[(.slice t57_0_a t57_0_l t57_0_c), (.int .i64 t57_1)]⟩) ∧
        cond (decide ((t51_2 : Int) = 0)) (
          cond (decide ((t57_1 : Int) = 0)) (
            cond (decide ((((t51_1_l : Nat) : Int) : Int) = 1)) (
              ∃ (t73 : Addr),
              t51_1_a = some t73 ∧
              0 ≤ (0 : Int) ∧
              (0 : Int) < ((t51_1_l : Nat) : Int) ∧
              ∃ (t74_a : Option Addr) (t74_l : Nat) (t74_c : Nat),
              w__2.cell? (t73.add (Int.toNat 0 * 1)) = some (.slice t74_a t74_l t74_c) ∧
              ∃ (t75 : ByteArray) (w__3 : World),
              (convert 30 9 (.slice t74_a t74_l t74_c)).run Try.prog w__2 = .ok (.string t75) w__3 ∧
              cond (decide ((t75 : ByteArray) = (⟨#[97]⟩ : ByteArray))) (
                R (.bool (decide ((((t57_0_l : Nat) : Int) : Int) = 5))) w__3
              ) (
                R (.bool false) w__3
              )
            ) (
              R (.bool false) w__2
            )
          ) (
            R (.bool false) w__2
          )
        ) (
          R (.bool false) w__2
        )

def S8_k0 (d : Option Addr) (t46 : Bool) (w : World) (R : Value → World → Prop) : Prop :=
  cond t46 (
    R (.bool false) w
  ) (
    S8_k1 d w R
  )

def S8 (w : World) (R : Value → World → Prop) : Prop :=
  Calls Try.prog 9 ⟨[]⟩ w fun e w_ =>
    ∃ (t10 : Option Addr),
    e = .returned (.pointer t10) ∧
    Calls Try.prog 10 ⟨[(.pointer t10)]⟩ w_ fun e w__1 =>
      ∃ (t13_0 : Option Addr) (t13_1_a : Option Addr) (t13_1_l : Nat) (t13_1_c : Nat) (t13_2 : Int),
      e = .returned (.tuple ⟨[(.pointer t13_0), (.slice t13_1_a t13_1_l t13_1_c), (.int .i64 t13_2)]⟩) ∧
      cond (Option.isNone t13_0) (
        S8_k0 t10 true w__1 R
      ) (
        cond (!decide ((t13_2 : Int) = 0)) (
          S8_k0 t10 true w__1 R
        ) (
          cond (decide ((0 : Int) < ((t13_1_l : Nat) : Int))) (
            S8_k0 t10 true w__1 R
          ) (
            ∃ (t31_a : Option Addr) (t31_l : Nat) (t31_c : Nat) (w__2 : World),
            (convert 30 30 (.slice (some ⟨w__1.heap.size, 0, none⟩) 1 1)).run Try.prog (w__1.alloc (.cells ⟨[(.int .u8 97)]⟩ 5)) = .ok (.slice t31_a t31_l t31_c) w__2 ∧
            Calls Try.prog 11 ⟨[(.pointer t13_0), (.slice t31_a t31_l t31_c)]⟩ w__2 fun e w__3 =>
              ∃ (t32 : Int),
              e = .returned (.int .i64 t32) ∧
              cond (!decide ((t32 : Int) = 0)) (
                S8_k0 t10 true w__3 R
              ) (
                Calls Try.prog 12 ⟨[(.pointer t13_0)]⟩ w__3 fun e w__4 =>
                  ∃ (t37 : Int),
                  e = .returned (.int .i64 t37) ∧
                  cond (!decide ((t37 : Int) = 0)) (
                    S8_k0 t10 true w__4 R
                  ) (
                    ∃ (t43_a : Option Addr) (t43_l : Nat) (t43_c : Nat) (w__5 : World),
                    (convert 30 30 (.slice (some ⟨w__4.heap.size, 0, none⟩) 1 1)).run Try.prog (w__4.alloc (.cells ⟨[(.int .u8 98)]⟩ 5)) = .ok (.slice t43_a t43_l t43_c) w__5 ∧
                    Calls Try.prog 11 ⟨[(.pointer t13_0), (.slice t43_a t43_l t43_c)]⟩ w__5 fun e w__6 =>
                      ∃ (t44 : Int),
                      e = .returned (.int .i64 t44) ∧
                      S8_k0 t10 (!decide ((t44 : Int) = 0)) w__6 R
                  )
              )
          )
        )
      )

theorem S8_eq (w : World) (R : Value → World → Prop) : Eng.R Try.prog ⟨cal, S8_nx⟩ 83 S8_ann [] (Try.f8.body.getD .skip) (bodyQ Try.prog #[.tmp 0] R) (argE []) w = S8  w R := by kernel_rfl
/-- A call of 'carfax/carfaxlaw16.shown', by its condition. -/
theorem S8_calls {w : World} {R : Value → World → Prop} (hS : S8  w R) : Ret Try.prog 8 [] w R :=
  R_calls (C := ⟨cal, S8_nx⟩) cal_ok follows Try.func8 (c := Try.f8.body.getD .skip) (res := #[.tmp 0]) (n := 83) (by kernel_rfl) (by kernel_rfl) (by kernel_rfl) (by kernel_rfl) ((S8_eq  w R).mpr hS)

def S9_ann (p : List Nat) : Option LA :=
  none

def S9_nx (t : Nat) : Option (TypeId × TypeId) := none

def S9 (w : World) (R : Value → World → Prop) : Prop :=
  R (.pointer (some ⟨w.heap.size, 0, none⟩)) (w.alloc (.cells ⟨[(.slice none 0 0), (.int .i64 0), (.bool false), (.int .i64 (-1))]⟩ 60))

theorem S9_eq (w : World) (R : Value → World → Prop) : Eng.R Try.prog ⟨cal, S9_nx⟩ 3 S9_ann [] (Try.f9.body.getD .skip) (bodyQ Try.prog #[.tmp 0] R) (argE []) w = S9  w R := by kernel_rfl
/-- A call of 'carfax/disk.New', by its condition. -/
theorem S9_calls {w : World} {R : Value → World → Prop} (hS : S9  w R) : Ret Try.prog 9 [] w R :=
  R_calls (C := ⟨cal, S9_nx⟩) cal_ok follows Try.func9 (c := Try.f9.body.getD .skip) (res := #[.tmp 0]) (n := 3) (by kernel_rfl) (by kernel_rfl) (by kernel_rfl) (by kernel_rfl) ((S9_eq  w R).mpr hS)

def S10_ann (p : List Nat) : Option LA :=
  none

def S10_nx (t : Nat) : Option (TypeId × TypeId) := none

def S10_k2 (d : Option Addr) (all_a : Option Addr) (all_l : Nat) (all_c : Nat) (w : World) (R : Value → World → Prop) : Prop :=
  R (.tuple ⟨[(.pointer (some ⟨w.heap.size, 0, none⟩)), (.slice all_a all_l all_c), (.int .i64 0)]⟩) (w.alloc (.cells ⟨[(.pointer d), (.int .i64 ((all_l : Nat) : Int))]⟩ 65))

def S10_k1 (d : Option Addr) (all_a : Option Addr) (all_l : Nat) (all_c : Nat) (w : World) (R : Value → World → Prop) : Prop :=
  Calls Try.prog 32 ⟨[(.pointer d)]⟩ w fun e w_ =>
    ∃ (t35 : Int),
    e = .returned (.int .i64 t35) ∧
    cond (!decide ((t35 : Int) = 0)) (
      R (.tuple ⟨[(.pointer none), (.slice none 0 0), (.int .i64 t35)]⟩) w_
    ) (
      S10_k2 d all_a all_l all_c w_ R
    )

def S10_k0 (d : Option Addr) (b_a : Option Addr) (b_l : Nat) (b_c : Nat) (w : World) (R : Value → World → Prop) : Prop :=
  Calls Try.prog 30 ⟨[(.slice b_a b_l b_c)]⟩ w fun e w_ =>
    ∃ (t21_0_a : Option Addr) (t21_0_l : Nat) (t21_0_c : Nat) (t21_1 : Int),
    e = .returned (.tuple ⟨[(.slice t21_0_a t21_0_l t21_0_c), (.int .i64 t21_1)]⟩) ∧
    cond (decide ((t21_1 : Int) < ((b_l : Nat) : Int))) (
      Calls Try.prog 31 ⟨[(.pointer d), (.int .i64 t21_1)]⟩ w_ fun e w__1 =>
        ∃ (t30 : Int),
        e = .returned (.int .i64 t30) ∧
        cond (!decide ((t30 : Int) = 0)) (
          R (.tuple ⟨[(.pointer none), (.slice none 0 0), (.int .i64 t30)]⟩) w__1
        ) (
          S10_k1 d t21_0_a t21_0_l t21_0_c w__1 R
        )
    ) (
      S10_k1 d t21_0_a t21_0_l t21_0_c w_ R
    )

def S10 (d : Option Addr) (w : World) (R : Value → World → Prop) : Prop :=
  Calls Try.prog 20 ⟨[(.pointer d)]⟩ w fun e w_ =>
    ∃ (t13_0_a : Option Addr) (t13_0_l : Nat) (t13_0_c : Nat) (t13_1 : Int),
    e = .returned (.tuple ⟨[(.slice t13_0_a t13_0_l t13_0_c), (.int .i64 t13_1)]⟩) ∧
    cond (!decide ((t13_1 : Int) = 0)) (
      R (.tuple ⟨[(.pointer none), (.slice none 0 0), (.int .i64 t13_1)]⟩) w_
    ) (
      S10_k0 d t13_0_a t13_0_l t13_0_c w_ R
    )

theorem S10_eq (d : Option Addr) (w : World) (R : Value → World → Prop) : Eng.R Try.prog ⟨cal, S10_nx⟩ 45 S10_ann [] (Try.f10.body.getD .skip) (bodyQ Try.prog #[.tmp 2, .tmp 3, .tmp 4] R) (argE [(.pointer d)]) w = S10 d w R := by kernel_rfl
/-- A call of 'carfax/journal.Open', by its condition. -/
theorem S10_calls {d : Option Addr} {w : World} {R : Value → World → Prop} (hS : S10 d w R) : Ret Try.prog 10 [(.pointer d)] w R :=
  R_calls (C := ⟨cal, S10_nx⟩) cal_ok follows Try.func10 (c := Try.f10.body.getD .skip) (res := #[.tmp 2, .tmp 3, .tmp 4]) (n := 45) (by kernel_rfl) (by kernel_rfl) (by kernel_rfl) (by kernel_rfl) ((S10_eq d w R).mpr hS)

def S11_ann (p : List Nat) : Option LA :=
  none

def S11_nx (t : Nat) : Option (TypeId × TypeId) := none

def S11_k2 (j : Option Addr) (w : World) (R : Value → World → Prop) : Prop :=
  ∃ (t28 : Addr),
  j = some t28 ∧
  ∃ (t30 : Int),
  w.cell? (t28.add 1) = some (.int .i64 t30) ∧
  ∃ (t32 : Addr),
  j = some t32 ∧
  (∃ u, w.cell? (t32.add 1) = some u) ∧
  w.frozen? (t32.add 1) = false ∧
  R (.int .i64 0) (w.setCell (t32.add 1) (.int .i64 (IntKind.i64.wrap (t30 + 1))))

def S11_k1 (j : Option Addr) (f_a : Option Addr) (f_l : Nat) (f_c : Nat) (w : World) (R : Value → World → Prop) : Prop :=
  ∃ (t19 : Addr),
  j = some t19 ∧
  ∃ (t21 : Option Addr),
  w.cell? t19 = some (.pointer t21) ∧
  Calls Try.prog 15 ⟨[(.pointer t21), (.slice f_a f_l f_c)]⟩ w fun e w_ =>
    ∃ (t23 : Int),
    e = .returned (.int .i64 t23) ∧
    cond (!decide ((t23 : Int) = 0)) (
      R (.int .i64 t23) w_
    ) (
      S11_k2 j w_ R
    )

def S11_k0 (j : Option Addr) (b_a : Option Addr) (b_l : Nat) (b_c : Nat) (w : World) (R : Value → World → Prop) : Prop :=
  Calls Try.prog 33 ⟨[(.slice b_a b_l b_c)]⟩ w fun e w_ =>
    ∃ (t12_0_a : Option Addr) (t12_0_l : Nat) (t12_0_c : Nat) (t12_1 : Int),
    e = .returned (.tuple ⟨[(.slice t12_0_a t12_0_l t12_0_c), (.int .i64 t12_1)]⟩) ∧
    cond (!decide ((t12_1 : Int) = 0)) (
      R (.int .i64 t12_1) w_
    ) (
      S11_k1 j t12_0_a t12_0_l t12_0_c w_ R
    )

def S11 (j : Option Addr) (b_a : Option Addr) (b_l : Nat) (b_c : Nat) (w : World) (R : Value → World → Prop) : Prop :=
  cond (Option.isNone j) (
    R (.int .i64 2) w
  ) (
    S11_k0 j b_a b_l b_c w R
  )

theorem S11_eq (j : Option Addr) (b_a : Option Addr) (b_l : Nat) (b_c : Nat) (w : World) (R : Value → World → Prop) : Eng.R Try.prog ⟨cal, S11_nx⟩ 34 S11_ann [] (Try.f11.body.getD .skip) (bodyQ Try.prog #[.tmp 4] R) (argE [(.pointer j), (.slice b_a b_l b_c)]) w = S11 j b_a b_l b_c w R := by kernel_rfl
/-- A call of '(*carfax/journal.Journal).Note', by its condition. -/
theorem S11_calls {j : Option Addr} {b_a : Option Addr} {b_l : Nat} {b_c : Nat} {w : World} {R : Value → World → Prop} (hS : S11 j b_a b_l b_c w R) : Ret Try.prog 11 [(.pointer j), (.slice b_a b_l b_c)] w R :=
  R_calls (C := ⟨cal, S11_nx⟩) cal_ok follows Try.func11 (c := Try.f11.body.getD .skip) (res := #[.tmp 4]) (n := 34) (by kernel_rfl) (by kernel_rfl) (by kernel_rfl) (by kernel_rfl) ((S11_eq j b_a b_l b_c w R).mpr hS)

def S12_ann (p : List Nat) : Option LA :=
  none

def S12_nx (t : Nat) : Option (TypeId × TypeId) := none

def S12_k0 (j : Option Addr) (w : World) (R : Value → World → Prop) : Prop :=
  ∃ (t6 : Addr),
  j = some t6 ∧
  ∃ (t8 : Option Addr),
  w.cell? t6 = some (.pointer t8) ∧
  Calls Try.prog 32 ⟨[(.pointer t8)]⟩ w fun e w_ =>
    ∃ (t9 : Int),
    e = .returned (.int .i64 t9) ∧
    R (.int .i64 t9) w_

def S12 (j : Option Addr) (w : World) (R : Value → World → Prop) : Prop :=
  cond (Option.isNone j) (
    R (.int .i64 2) w
  ) (
    S12_k0 j w R
  )

theorem S12_eq (j : Option Addr) (w : World) (R : Value → World → Prop) : Eng.R Try.prog ⟨cal, S12_nx⟩ 10 S12_ann [] (Try.f12.body.getD .skip) (bodyQ Try.prog #[.tmp 2] R) (argE [(.pointer j)]) w = S12 j w R := by kernel_rfl
/-- A call of '(*carfax/journal.Journal).Sync', by its condition. -/
theorem S12_calls {j : Option Addr} {w : World} {R : Value → World → Prop} (hS : S12 j w R) : Ret Try.prog 12 [(.pointer j)] w R :=
  R_calls (C := ⟨cal, S12_nx⟩) cal_ok follows Try.func12 (c := Try.f12.body.getD .skip) (res := #[.tmp 2]) (n := 10) (by kernel_rfl) (by kernel_rfl) (by kernel_rfl) (by kernel_rfl) ((S12_eq j w R).mpr hS)

def S13_ann (p : List Nat) : Option LA :=
  none

def S13_nx (t : Nat) : Option (TypeId × TypeId) := none

def S13_k2 (d : Option Addr) (w : World) (R : Value → World → Prop) : Prop :=
  ∃ (t38 : Addr),
  d = some t38 ∧
  ∃ (t40_a : Option Addr) (t40_l : Nat) (t40_c : Nat),
  w.cell? t38 = some (.slice t40_a t40_l t40_c) ∧
  ∃ (t42 : Addr),
  d = some t42 ∧
  (∃ u, w.cell? (t42.add 1) = some u) ∧
  w.frozen? (t42.add 1) = false ∧
  ∃ (t44 : Addr),
  d = some t44 ∧
  (∃ u, (w.setCell (t42.add 1) (.int .i64 ((t40_l : Nat) : Int))).cell? (t44.add 2) = some u) ∧
  (w.setCell (t42.add 1) (.int .i64 ((t40_l : Nat) : Int))).frozen? (t44.add 2) = false ∧
  ∃ (t46 : Addr),
  d = some t46 ∧
  (∃ u, ((w.setCell (t42.add 1) (.int .i64 ((t40_l : Nat) : Int))).setCell (t44.add 2) (.bool false)).cell? (t46.add 3) = some u) ∧
  ((w.setCell (t42.add 1) (.int .i64 ((t40_l : Nat) : Int))).setCell (t44.add 2) (.bool false)).frozen? (t46.add 3) = false ∧
  R (.tuple ⟨[]⟩) (((w.setCell (t42.add 1) (.int .i64 ((t40_l : Nat) : Int))).setCell (t44.add 2) (.bool false)).setCell (t46.add 3) (.int .i64 (-1)))

def S13_k1 (d : Option Addr) (n_ : Int) (w : World) (R : Value → World → Prop) : Prop :=
  ∃ (t22 : Addr),
  d = some t22 ∧
  ∃ (t26 : Addr),
  d = some t26 ∧
  ∃ (t28 : Int),
  w.drew.cell? (t26.add 1) = some (.int .i64 t28) ∧
  ∃ (t24_a : Option Addr) (t24_l : Nat) (t24_c : Nat),
  w.drew.cell? t22 = some (.slice t24_a t24_l t24_c) ∧
  0 ≤ ((IntKind.i64.wrap (t28 + n_)) : Int) ∧
  ((IntKind.i64.wrap (t28 + n_)) : Int) ≤ ((t24_c : Nat) : Int) ∧
  ∃ (t32 : Addr),
  d = some t32 ∧
  (∃ u, w.drew.cell? t32 = some u) ∧
  w.drew.frozen? t32 = false ∧
  S13_k2 d (w.drew.setCell t32 (.slice (slAddr t24_a t24_c 0 1) ((Int.toNat (IntKind.i64.wrap (t28 + n_))) - 0) (t24_c - 0))) R

def S13_k0 (d : Option Addr) (keep : Int) (w : World) (R : Value → World → Prop) : Prop :=
  ∃ (t10 : Addr),
  d = some t10 ∧
  ∃ (t15 : Addr),
  d = some t15 ∧
  ∃ (t12_a : Option Addr) (t12_l : Nat) (t12_c : Nat),
  w.drew.cell? t10 = some (.slice t12_a t12_l t12_c) ∧
  ∃ (t17 : Int),
  w.drew.cell? (t15.add 1) = some (.int .i64 t17) ∧
  S13_k1 d (if (IntKind.i64.wrap (((t12_l : Nat) : Int) - t17)) < (if 0 > keep then 0 else keep) then (IntKind.i64.wrap (((t12_l : Nat) : Int) - t17)) else (if 0 > keep then 0 else keep)) w.drew R

def S13 (d : Option Addr) (keep : Int) (w : World) (R : Value → World → Prop) : Prop :=
  cond (Option.isNone d) (
    R (.tuple ⟨[]⟩) w
  ) (
    S13_k0 d keep w R
  )

theorem S13_eq (d : Option Addr) (keep : Int) (w : World) (R : Value → World → Prop) : Eng.R Try.prog ⟨cal, S13_nx⟩ 48 S13_ann [] (Try.f13.body.getD .skip) (bodyQ Try.prog #[] R) (argE [(.pointer d), (.int .i64 keep)]) w = S13 d keep w R := by kernel_rfl
/-- A call of '(*carfax/disk.Disk).Crash', by its condition. -/
theorem S13_calls {d : Option Addr} {keep : Int} {w : World} {R : Value → World → Prop} (hS : S13 d keep w R) : Ret Try.prog 13 [(.pointer d), (.int .i64 keep)] w R :=
  R_calls (C := ⟨cal, S13_nx⟩) cal_ok follows Try.func13 (c := Try.f13.body.getD .skip) (res := #[]) (n := 48) (by kernel_rfl) (by kernel_rfl) (by kernel_rfl) (by kernel_rfl) ((S13_eq d keep w R).mpr hS)

def S14_ann (p : List Nat) : Option LA := match p with
  | [0, 1, 0, 1, 1] => some ⟨[0, 1], [(5, .one (.int .i64))]⟩
  | _ => none

def S14_nx (t : Nat) : Option (TypeId × TypeId) := none

def S14_k3 (a_a : Option Addr) (a_l : Nat) (a_c : Nat) (b_a : Option Addr) (b_l : Nat) (b_c : Nat) (i : Int) (t27 : Bool) (w : World) (R : Value → World → Prop) (B1 : (Int) × Unit → World → Prop) : Prop :=
  cond t27 (
    R (.bool false) w
  ) (
    B1 ((IntKind.i64.wrap (i + 1)), ()) w
  )

def S14_k2 (a_a : Option Addr) (a_l : Nat) (a_c : Nat) (b_a : Option Addr) (b_l : Nat) (b_c : Nat) (i : Int) (w : World) (R : Value → World → Prop) (B1 : (Int) × Unit → World → Prop) : Prop :=
  ∃ (t19 : Addr),
  a_a = some t19 ∧
  0 ≤ (i : Int) ∧
  (i : Int) < ((a_l : Nat) : Int) ∧
  ∃ (t24 : Addr),
  b_a = some t24 ∧
  0 ≤ (i : Int) ∧
  (i : Int) < ((b_l : Nat) : Int) ∧
  (
    ∃ (t20_a : Option Addr) (t20_l : Nat) (t20_c : Nat),
    w.drew.cell? (t19.add (Int.toNat i * 1)) = some (.slice t20_a t20_l t20_c) ∧
    (
      ∃ (t21 : ByteArray) (w_ : World),
      (convert 30 9 (.slice t20_a t20_l t20_c)).run Try.prog w.drew = .ok (.string t21) w_ ∧
      ∃ (t25_a : Option Addr) (t25_l : Nat) (t25_c : Nat),
      w_.cell? (t24.add (Int.toNat i * 1)) = some (.slice t25_a t25_l t25_c) ∧
      ∃ (t26 : ByteArray) (w__1 : World),
      (convert 30 9 (.slice t25_a t25_l t25_c)).run Try.prog w_ = .ok (.string t26) w__1 ∧
      S14_k3 a_a a_l a_c b_a b_l b_c i (!decide ((t21 : ByteArray) = t26)) w__1 R B1
    ) ∧
    (
      ∃ (t25_a_1 : Option Addr) (t25_l_1 : Nat) (t25_c_1 : Nat),
      w.drew.cell? (t24.add (Int.toNat i * 1)) = some (.slice t25_a_1 t25_l_1 t25_c_1) ∧
      (
        ∃ (t21_1 : ByteArray) (w__2 : World),
        (convert 30 9 (.slice t20_a t20_l t20_c)).run Try.prog w.drew = .ok (.string t21_1) w__2 ∧
        ∃ (t26_1 : ByteArray) (w__3 : World),
        (convert 30 9 (.slice t25_a_1 t25_l_1 t25_c_1)).run Try.prog w__2 = .ok (.string t26_1) w__3 ∧
        S14_k3 a_a a_l a_c b_a b_l b_c i (!decide ((t21_1 : ByteArray) = t26_1)) w__3 R B1
      ) ∧
      (
        ∃ (t26_2 : ByteArray) (w__4 : World),
        (convert 30 9 (.slice t25_a_1 t25_l_1 t25_c_1)).run Try.prog w.drew = .ok (.string t26_2) w__4 ∧
        ∃ (t21_2 : ByteArray) (w__5 : World),
        (convert 30 9 (.slice t20_a t20_l t20_c)).run Try.prog w__4 = .ok (.string t21_2) w__5 ∧
        S14_k3 a_a a_l a_c b_a b_l b_c i (!decide ((t21_2 : ByteArray) = t26_2)) w__5 R B1
      )
    )
  ) ∧
  (
    ∃ (t25_a_2 : Option Addr) (t25_l_2 : Nat) (t25_c_2 : Nat),
    w.drew.cell? (t24.add (Int.toNat i * 1)) = some (.slice t25_a_2 t25_l_2 t25_c_2) ∧
    (
      ∃ (t20_a_1 : Option Addr) (t20_l_1 : Nat) (t20_c_1 : Nat),
      w.drew.cell? (t19.add (Int.toNat i * 1)) = some (.slice t20_a_1 t20_l_1 t20_c_1) ∧
      (
        ∃ (t21_3 : ByteArray) (w__6 : World),
        (convert 30 9 (.slice t20_a_1 t20_l_1 t20_c_1)).run Try.prog w.drew = .ok (.string t21_3) w__6 ∧
        ∃ (t26_3 : ByteArray) (w__7 : World),
        (convert 30 9 (.slice t25_a_2 t25_l_2 t25_c_2)).run Try.prog w__6 = .ok (.string t26_3) w__7 ∧
        S14_k3 a_a a_l a_c b_a b_l b_c i (!decide ((t21_3 : ByteArray) = t26_3)) w__7 R B1
      ) ∧
      (
        ∃ (t26_4 : ByteArray) (w__8 : World),
        (convert 30 9 (.slice t25_a_2 t25_l_2 t25_c_2)).run Try.prog w.drew = .ok (.string t26_4) w__8 ∧
        ∃ (t21_4 : ByteArray) (w__9 : World),
        (convert 30 9 (.slice t20_a_1 t20_l_1 t20_c_1)).run Try.prog w__8 = .ok (.string t21_4) w__9 ∧
        S14_k3 a_a a_l a_c b_a b_l b_c i (!decide ((t21_4 : ByteArray) = t26_4)) w__9 R B1
      )
    ) ∧
    (
      ∃ (t26_5 : ByteArray) (w__10 : World),
      (convert 30 9 (.slice t25_a_2 t25_l_2 t25_c_2)).run Try.prog w.drew = .ok (.string t26_5) w__10 ∧
      ∃ (t20_a_2 : Option Addr) (t20_l_2 : Nat) (t20_c_2 : Nat),
      w__10.cell? (t19.add (Int.toNat i * 1)) = some (.slice t20_a_2 t20_l_2 t20_c_2) ∧
      ∃ (t21_5 : ByteArray) (w__11 : World),
      (convert 30 9 (.slice t20_a_2 t20_l_2 t20_c_2)).run Try.prog w__10 = .ok (.string t21_5) w__11 ∧
      S14_k3 a_a a_l a_c b_a b_l b_c i (!decide ((t21_5 : ByteArray) = t26_5)) w__11 R B1
    )
  )

def S14_L1 (a_a : Option Addr) (a_l : Nat) (a_c : Nat) (b_a : Option Addr) (b_l : Nat) (b_c : Nat) (i : Int) (w : World) (R : Value → World → Prop) (B1 : (Int) × Unit → World → Prop) : Prop :=
  cond (decide ((i : Int) < ((a_l : Nat) : Int))) (
    S14_k2 a_a a_l a_c b_a b_l b_c i w R B1
  ) (
    R (.bool true) w
  )

def S14_k0 (a_a : Option Addr) (a_l : Nat) (a_c : Nat) (b_a : Option Addr) (b_l : Nat) (b_c : Nat) (w : World) (R : Value → World → Prop) : Prop :=
  ∃ (I : (Int) × Unit → World → Prop) (μ : (Int) × Unit → World → Nat),
  I (0, ()) w ∧
  ∀ (J : Env) (s : (Int) × Unit) (w' : World), I s w' →
    S14_L1 a_a a_l a_c b_a b_l b_c s.1 w' R (fun s' w'' => I s' w'' ∧ μ s' w'' < μ s w')

def S14 (a_a : Option Addr) (a_l : Nat) (a_c : Nat) (b_a : Option Addr) (b_l : Nat) (b_c : Nat) (w : World) (R : Value → World → Prop) : Prop :=
  cond (!decide ((((a_l : Nat) : Int) : Int) = ((b_l : Nat) : Int))) (
    R (.bool false) w
  ) (
    S14_k0 a_a a_l a_c b_a b_l b_c w R
  )

theorem S14_eq (a_a : Option Addr) (a_l : Nat) (a_c : Nat) (b_a : Option Addr) (b_l : Nat) (b_c : Nat) (w : World) (R : Value → World → Prop) : Eng.R Try.prog ⟨cal, S14_nx⟩ 28 S14_ann [] (Try.f14.body.getD .skip) (bodyQ Try.prog #[.tmp 4] R) (argE [(.slice a_a a_l a_c), (.slice b_a b_l b_c)]) w = S14 a_a a_l a_c b_a b_l b_c w R := by kernel_rfl
/-- A call of 'carfax/carfaxref02.Same', by its condition. -/
theorem S14_calls {a_a : Option Addr} {a_l : Nat} {a_c : Nat} {b_a : Option Addr} {b_l : Nat} {b_c : Nat} {w : World} {R : Value → World → Prop} (hS : S14 a_a a_l a_c b_a b_l b_c w R) : Ret Try.prog 14 [(.slice a_a a_l a_c), (.slice b_a b_l b_c)] w R :=
  R_calls (C := ⟨cal, S14_nx⟩) cal_ok follows Try.func14 (c := Try.f14.body.getD .skip) (res := #[.tmp 4]) (n := 28) (by kernel_rfl) (by kernel_rfl) (by kernel_rfl) (by kernel_rfl) ((S14_eq a_a a_l a_c b_a b_l b_c w R).mpr hS)

def S15_ann (p : List Nat) : Option LA :=
  none

def S15_nx (t : Nat) : Option (TypeId × TypeId) := none

def S15_k1 (d : Option Addr) (b_a : Option Addr) (b_l : Nat) (b_c : Nat) (w : World) (R : Value → World → Prop) : Prop :=
  ∃ (t22 : Addr),
  d = some t22 ∧
  ∃ (t24_a : Option Addr) (t24_l : Nat) (t24_c : Nat),
  w.cell? t22 = some (.slice t24_a t24_l t24_c) ∧
  ∃ (t26_a : Option Addr) (t26_l : Nat) (t26_c : Nat) (w_ : World),
  (Builtin.append_ #[30, 30] 30 ⟨[(.slice t24_a t24_l t24_c), (.slice b_a b_l b_c)]⟩).run Try.prog w = .ok (.slice t26_a t26_l t26_c) w_ ∧
  ∃ (t27 : Addr),
  d = some t27 ∧
  (∃ u, w_.cell? t27 = some u) ∧
  w_.frozen? t27 = false ∧
  R (.int .i64 0) (w_.setCell t27 (.slice t26_a t26_l t26_c))

def S15_k0 (d : Option Addr) (b_a : Option Addr) (b_l : Nat) (b_c : Nat) (w : World) (R : Value → World → Prop) : Prop :=
  ∃ (t14 : Addr),
  d = some t14 ∧
  ∃ (t16_a : Option Addr) (t16_l : Nat) (t16_c : Nat),
  w.cell? t14 = some (.slice t16_a t16_l t16_c) ∧
  cond (decide (((IntKind.i64.wrap (1048576 - ((t16_l : Nat) : Int))) : Int) < ((b_l : Nat) : Int))) (
    R (.int .i64 4) w
  ) (
    S15_k1 d b_a b_l b_c w R
  )

def S15 (d : Option Addr) (b_a : Option Addr) (b_l : Nat) (b_c : Nat) (w : World) (R : Value → World → Prop) : Prop :=
  Calls Try.prog 34 ⟨[(.pointer d)]⟩ w fun e w_ =>
    ∃ (t7 : Int),
    e = .returned (.int .i64 t7) ∧
    cond (!decide ((t7 : Int) = 0)) (
      R (.int .i64 t7) w_
    ) (
      S15_k0 d b_a b_l b_c w_ R
    )

theorem S15_eq (d : Option Addr) (b_a : Option Addr) (b_l : Nat) (b_c : Nat) (w : World) (R : Value → World → Prop) : Eng.R Try.prog ⟨cal, S15_nx⟩ 29 S15_ann [] (Try.f15.body.getD .skip) (bodyQ Try.prog #[.tmp 4] R) (argE [(.pointer d), (.slice b_a b_l b_c)]) w = S15 d b_a b_l b_c w R := by kernel_rfl
/-- A call of '(*carfax/disk.Disk).Append', by its condition. -/
theorem S15_calls {d : Option Addr} {b_a : Option Addr} {b_l : Nat} {b_c : Nat} {w : World} {R : Value → World → Prop} (hS : S15 d b_a b_l b_c w R) : Ret Try.prog 15 [(.pointer d), (.slice b_a b_l b_c)] w R :=
  R_calls (C := ⟨cal, S15_nx⟩) cal_ok follows Try.func15 (c := Try.f15.body.getD .skip) (res := #[.tmp 4]) (n := 29) (by kernel_rfl) (by kernel_rfl) (by kernel_rfl) (by kernel_rfl) ((S15_eq d b_a b_l b_c w R).mpr hS)

def S16_ann (p : List Nat) : Option LA :=
  none

def S16_nx (t : Nat) : Option (TypeId × TypeId) := none

def S16_k0 (j : Option Addr) (w : World) (R : Value → World → Prop) : Prop :=
  ∃ (t6 : Addr),
  j = some t6 ∧
  ∃ (t8 : Int),
  w.cell? (t6.add 1) = some (.int .i64 t8) ∧
  R (.int .i64 t8) w

def S16 (j : Option Addr) (w : World) (R : Value → World → Prop) : Prop :=
  cond (Option.isNone j) (
    R (.int .i64 0) w
  ) (
    S16_k0 j w R
  )

theorem S16_eq (j : Option Addr) (w : World) (R : Value → World → Prop) : Eng.R Try.prog ⟨cal, S16_nx⟩ 9 S16_ann [] (Try.f16.body.getD .skip) (bodyQ Try.prog #[.tmp 2] R) (argE [(.pointer j)]) w = S16 j w R := by kernel_rfl
/-- A call of '(*carfax/journal.Journal).Len', by its condition. -/
theorem S16_calls {j : Option Addr} {w : World} {R : Value → World → Prop} (hS : S16 j w R) : Ret Try.prog 16 [(.pointer j)] w R :=
  R_calls (C := ⟨cal, S16_nx⟩) cal_ok follows Try.func16 (c := Try.f16.body.getD .skip) (res := #[.tmp 2]) (n := 9) (by kernel_rfl) (by kernel_rfl) (by kernel_rfl) (by kernel_rfl) ((S16_eq j w R).mpr hS)

def S17_ann (p : List Nat) : Option LA := match p with
  | [0, 1, 0, 1, 1] => some ⟨[0, 6], [(3, .one (.int .i64)), (7, .one (.int .i64))]⟩
  | _ => none

def S17_nx (t : Nat) : Option (TypeId × TypeId) := none

def S17_k3 (l_a : Option Addr) (l_l : Nat) (l_c : Nat) (left : Int) (i : Int) (t6 : Int) (t7 : Int) (w : World) (R : Value → World → Prop) (B1 : (Int) × (Int) × Unit → World → Prop) : Prop :=
  ∃ (t28 : Addr),
  l_a = some t28 ∧
  0 ≤ (i : Int) ∧
  (i : Int) < ((l_l : Nat) : Int) ∧
  ∃ (t30_a : Option Addr) (t30_l : Nat) (t30_c : Nat),
  w.cell? ((t28.add (Int.toNat i * 3)).add 1) = some (.slice t30_a t30_l t30_c) ∧
  B1 ((IntKind.i64.wrap (left - ((t30_l : Nat) : Int))), (IntKind.i64.wrap (t7 + 1)), ()) w

def S17_k2 (l_a : Option Addr) (l_l : Nat) (l_c : Nat) (left : Int) (i : Int) (t6 : Int) (t7 : Int) (t21 : Bool) (w : World) (R : Value → World → Prop) (B1 : (Int) × (Int) × Unit → World → Prop) : Prop :=
  cond t21 (
    0 ≤ (i : Int) ∧
    (i : Int) ≤ ((l_c : Nat) : Int) ∧
    R (.slice (slAddr l_a l_c 0 3) ((Int.toNat i) - 0) (l_c - 0)) w
  ) (
    S17_k3 l_a l_l l_c left i t6 t7 w R B1
  )

def S17_k1 (l_a : Option Addr) (l_l : Nat) (l_c : Nat) (left : Int) (t6 : Int) (t7 : Int) (w : World) (R : Value → World → Prop) (B1 : (Int) × (Int) × Unit → World → Prop) : Prop :=
  cond (decide ((60 : Int) ≤ t7)) (
    S17_k2 l_a l_l l_c left t7 t6 t7 true w R B1
  ) (
    ∃ (t15 : Addr),
    l_a = some t15 ∧
    0 ≤ (t7 : Int) ∧
    (t7 : Int) < ((l_l : Nat) : Int) ∧
    ∃ (t17_a : Option Addr) (t17_l : Nat) (t17_c : Nat),
    w.cell? ((t15.add (Int.toNat t7 * 3)).add 1) = some (.slice t17_a t17_l t17_c) ∧
    S17_k2 l_a l_l l_c left t7 t6 t7 (decide ((left : Int) < ((t17_l : Nat) : Int))) w R B1
  )

def S17_L0 (l_a : Option Addr) (l_l : Nat) (l_c : Nat) (left : Int) (t6 : Int) (t7 : Int) (w : World) (R : Value → World → Prop) (B1 : (Int) × (Int) × Unit → World → Prop) : Prop :=
  cond (decide ((t7 : Int) < t6)) (
    S17_k1 l_a l_l l_c left t6 t7 w R B1
  ) (
    R (.slice l_a l_l l_c) w
  )

def S17 (l_a : Option Addr) (l_l : Nat) (l_c : Nat) (w : World) (R : Value → World → Prop) : Prop :=
  ∃ (I : (Int) × (Int) × Unit → World → Prop) (μ : (Int) × (Int) × Unit → World → Nat),
  I (10000, 0, ()) w ∧
  ∀ (J : Env) (s : (Int) × (Int) × Unit) (w' : World), I s w' →
    S17_L0 l_a l_l l_c s.1 ((l_l : Nat) : Int) s.2.1 w' R (fun s' w'' => I s' w'' ∧ μ s' w'' < μ s w')

theorem S17_eq (l_a : Option Addr) (l_l : Nat) (l_c : Nat) (w : World) (R : Value → World → Prop) : Eng.R Try.prog ⟨cal, S17_nx⟩ 35 S17_ann [] (Try.f17.body.getD .skip) (bodyQ Try.prog #[.tmp 2] R) (argE [(.slice l_a l_l l_c)]) w = S17 l_a l_l l_c w R := by kernel_rfl
/-- A call of 'carfax/carfaxlaw16.few', by its condition. -/
theorem S17_calls {l_a : Option Addr} {l_l : Nat} {l_c : Nat} {w : World} {R : Value → World → Prop} (hS : S17 l_a l_l l_c w R) : Ret Try.prog 17 [(.slice l_a l_l l_c)] w R :=
  R_calls (C := ⟨cal, S17_nx⟩) cal_ok follows Try.func17 (c := Try.f17.body.getD .skip) (res := #[.tmp 2]) (n := 35) (by kernel_rfl) (by kernel_rfl) (by kernel_rfl) (by kernel_rfl) ((S17_eq l_a l_l l_c w R).mpr hS)

def S18_ann (p : List Nat) : Option LA :=
  none

def S18_nx (t : Nat) : Option (TypeId × TypeId) := none

def S18 (d : Option Addr) (w : World) (R : Value → World → Prop) : Prop :=
  cond (!(Option.isNone d)) (
    ∃ (t7 : Addr),
    d = some t7 ∧
    ∃ (t9 : Bool),
    w.cell? (t7.add 2) = some (.bool t9) ∧
    R (.bool t9) w
  ) (
    R (.bool false) w
  )

theorem S18_eq (d : Option Addr) (w : World) (R : Value → World → Prop) : Eng.R Try.prog ⟨cal, S18_nx⟩ 11 S18_ann [] (Try.f18.body.getD .skip) (bodyQ Try.prog #[.tmp 2] R) (argE [(.pointer d)]) w = S18 d w R := by kernel_rfl
/-- A call of '(*carfax/disk.Disk).Dead', by its condition. -/
theorem S18_calls {d : Option Addr} {w : World} {R : Value → World → Prop} (hS : S18 d w R) : Ret Try.prog 18 [(.pointer d)] w R :=
  R_calls (C := ⟨cal, S18_nx⟩) cal_ok follows Try.func18 (c := Try.f18.body.getD .skip) (res := #[.tmp 2]) (n := 11) (by kernel_rfl) (by kernel_rfl) (by kernel_rfl) (by kernel_rfl) ((S18_eq d w R).mpr hS)

def S19_ann (p : List Nat) : Option LA :=
  none

def S19_nx (t : Nat) : Option (TypeId × TypeId) := none

def S19_k0 (d : Option Addr) (after : Int) (t12 : Bool) (w : World) (R : Value → World → Prop) : Prop :=
  cond t12 (
    ∃ (t16 : Addr),
    d = some t16 ∧
    (∃ u, w.cell? (t16.add 3) = some u) ∧
    w.frozen? (t16.add 3) = false ∧
    R (.tuple ⟨[]⟩) (w.setCell (t16.add 3) (.int .i64 (if (-1) > after then (-1) else after)))
  ) (
    R (.tuple ⟨[]⟩) w
  )

def S19 (d : Option Addr) (after : Int) (w : World) (R : Value → World → Prop) : Prop :=
  cond (!(Option.isNone d)) (
    ∃ (t8 : Addr),
    d = some t8 ∧
    ∃ (t10 : Bool),
    w.cell? (t8.add 2) = some (.bool t10) ∧
    S19_k0 d after (!t10) w R
  ) (
    S19_k0 d after false w R
  )

theorem S19_eq (d : Option Addr) (after : Int) (w : World) (R : Value → World → Prop) : Eng.R Try.prog ⟨cal, S19_nx⟩ 18 S19_ann [] (Try.f19.body.getD .skip) (bodyQ Try.prog #[] R) (argE [(.pointer d), (.int .i64 after)]) w = S19 d after w R := by kernel_rfl
/-- A call of '(*carfax/disk.Disk).Cut', by its condition. -/
theorem S19_calls {d : Option Addr} {after : Int} {w : World} {R : Value → World → Prop} (hS : S19 d after w R) : Ret Try.prog 19 [(.pointer d), (.int .i64 after)] w R :=
  R_calls (C := ⟨cal, S19_nx⟩) cal_ok follows Try.func19 (c := Try.f19.body.getD .skip) (res := #[]) (n := 18) (by kernel_rfl) (by kernel_rfl) (by kernel_rfl) (by kernel_rfl) ((S19_eq d after w R).mpr hS)

def S20_ann (p : List Nat) : Option LA :=
  none

def S20_nx (t : Nat) : Option (TypeId × TypeId) := none

def S20_k0 (d : Option Addr) (w : World) (R : Value → World → Prop) : Prop :=
  ∃ (t14 : Addr),
  d = some t14 ∧
  ∃ (t16_a : Option Addr) (t16_l : Nat) (t16_c : Nat),
  w.cell? t14 = some (.slice t16_a t16_l t16_c) ∧
  ∃ (t18_a : Option Addr) (t18_l : Nat) (t18_c : Nat) (w_ : World),
  (Instr.makeSlice 30 (.int .i64 ((t16_l : Nat) : Int)) (.int .i64 ((t16_l : Nat) : Int))).run Try.prog w = .ok (.slice t18_a t18_l t18_c) w_ ∧
  ∃ (t21 : Addr),
  d = some t21 ∧
  ∃ (t23_a : Option Addr) (t23_l : Nat) (t23_c : Nat),
  w_.cell? t21 = some (.slice t23_a t23_l t23_c) ∧
  ∃ (t24 : Int) (w__1 : World),
  (Builtin.copy_ #[30, 30] 3 ⟨[(.slice t18_a t18_l t18_c), (.slice t23_a t23_l t23_c)]⟩).run Try.prog w_ = .ok (.int .i64 t24) w__1 ∧
  R (.tuple ⟨[(.slice t18_a t18_l t18_c), (.int .i64 0)]⟩) w__1

def S20 (d : Option Addr) (w : World) (R : Value → World → Prop) : Prop :=
  cond (Option.isNone d) (
    R (.tuple ⟨[(.slice none 0 0), (.int .i64 2)]⟩) w
  ) (
    ∃ (t10 : Addr),
    d = some t10 ∧
    ∃ (t12 : Bool),
    w.cell? (t10.add 2) = some (.bool t12) ∧
    cond t12 (
      R (.tuple ⟨[(.slice none 0 0), (.int .i64 5)]⟩) w
    ) (
      S20_k0 d w R
    )
  )

theorem S20_eq (d : Option Addr) (w : World) (R : Value → World → Prop) : Eng.R Try.prog ⟨cal, S20_nx⟩ 26 S20_ann [] (Try.f20.body.getD .skip) (bodyQ Try.prog #[.tmp 2, .tmp 3] R) (argE [(.pointer d)]) w = S20 d w R := by kernel_rfl
/-- A call of '(*carfax/disk.Disk).Read', by its condition. -/
theorem S20_calls {d : Option Addr} {w : World} {R : Value → World → Prop} (hS : S20 d w R) : Ret Try.prog 20 [(.pointer d)] w R :=
  R_calls (C := ⟨cal, S20_nx⟩) cal_ok follows Try.func20 (c := Try.f20.body.getD .skip) (res := #[.tmp 2, .tmp 3]) (n := 26) (by kernel_rfl) (by kernel_rfl) (by kernel_rfl) (by kernel_rfl) ((S20_eq d w R).mpr hS)

def S21_ann (p : List Nat) : Option LA :=
  none

def S21_nx (t : Nat) : Option (TypeId × TypeId) := none

def S21_k0 (d : Option Addr) (w : World) (R : Value → World → Prop) : Prop :=
  ∃ (t6 : Addr),
  d = some t6 ∧
  ∃ (t8 : Int),
  w.cell? (t6.add 1) = some (.int .i64 t8) ∧
  R (.int .i64 t8) w

def S21 (d : Option Addr) (w : World) (R : Value → World → Prop) : Prop :=
  cond (Option.isNone d) (
    R (.int .i64 0) w
  ) (
    S21_k0 d w R
  )

theorem S21_eq (d : Option Addr) (w : World) (R : Value → World → Prop) : Eng.R Try.prog ⟨cal, S21_nx⟩ 9 S21_ann [] (Try.f21.body.getD .skip) (bodyQ Try.prog #[.tmp 2] R) (argE [(.pointer d)]) w = S21 d w R := by kernel_rfl
/-- A call of '(*carfax/disk.Disk).Safe', by its condition. -/
theorem S21_calls {d : Option Addr} {w : World} {R : Value → World → Prop} (hS : S21 d w R) : Ret Try.prog 21 [(.pointer d)] w R :=
  R_calls (C := ⟨cal, S21_nx⟩) cal_ok follows Try.func21 (c := Try.f21.body.getD .skip) (res := #[.tmp 2]) (n := 9) (by kernel_rfl) (by kernel_rfl) (by kernel_rfl) (by kernel_rfl) ((S21_eq d w R).mpr hS)

def S22_ann (p : List Nat) : Option LA :=
  none

def S22_nx (t : Nat) : Option (TypeId × TypeId) := none

def S22 (w : World) (R : Value → World → Prop) : Prop :=
  R (.pointer (some ⟨w.heap.size, 0, none⟩)) (w.alloc (.cells ⟨[(.string (⟨#[]⟩ : ByteArray)), (.int .i64 0), (.bool false), (.int .i64 (-1))]⟩ 57))

theorem S22_eq (w : World) (R : Value → World → Prop) : Eng.R Try.prog ⟨cal, S22_nx⟩ 3 S22_ann [] (Try.f22.body.getD .skip) (bodyQ Try.prog #[.tmp 0] R) (argE []) w = S22  w R := by kernel_rfl
/-- A call of 'carfax/carfaxref15.New', by its condition. -/
theorem S22_calls {w : World} {R : Value → World → Prop} (hS : S22  w R) : Ret Try.prog 22 [] w R :=
  R_calls (C := ⟨cal, S22_nx⟩) cal_ok follows Try.func22 (c := Try.f22.body.getD .skip) (res := #[.tmp 0]) (n := 3) (by kernel_rfl) (by kernel_rfl) (by kernel_rfl) (by kernel_rfl) ((S22_eq  w R).mpr hS)

def S23_ann (p : List Nat) : Option LA :=
  none

def S23_nx (t : Nat) : Option (TypeId × TypeId) := none

def S23_k1 (d : Option Addr) (b : ByteArray) (w : World) (R : Value → World → Prop) : Prop :=
  ∃ (t19 : Addr),
  d = some t19 ∧
  ∃ (t21 : ByteArray),
  w.cell? t19 = some (.string t21) ∧
  ByteArray.size t21 + ByteArray.size b ≤ 9223372036854775807 ∧
  ∃ (t24 : Addr),
  d = some t24 ∧
  (∃ u, w.cell? t24 = some u) ∧
  w.frozen? t24 = false ∧
  R (.int .i64 0) (w.setCell t24 (.string (t21 ++ b)))

def S23_k0 (d : Option Addr) (b : ByteArray) (w : World) (R : Value → World → Prop) : Prop :=
  ∃ (t11 : Addr),
  d = some t11 ∧
  ∃ (t13 : ByteArray),
  w.cell? t11 = some (.string t13) ∧
  cond (decide (((IntKind.i64.wrap (1048576 - ((ByteArray.size t13 : Nat) : Int))) : Int) < ((ByteArray.size b : Nat) : Int))) (
    R (.int .i64 4) w
  ) (
    S23_k1 d b w R
  )

def S23 (d : Option Addr) (b : ByteArray) (w : World) (R : Value → World → Prop) : Prop :=
  Calls Try.prog 35 ⟨[(.pointer d)]⟩ w fun e w_ =>
    ∃ (t6 : Bool),
    e = .returned (.bool t6) ∧
    cond (!t6) (
      R (.int .i64 5) w_
    ) (
      S23_k0 d b w_ R
    )

theorem S23_eq (d : Option Addr) (b : ByteArray) (w : World) (R : Value → World → Prop) : Eng.R Try.prog ⟨cal, S23_nx⟩ 26 S23_ann [] (Try.f23.body.getD .skip) (bodyQ Try.prog #[.tmp 4] R) (argE [(.pointer d), (.string b)]) w = S23 d b w R := by kernel_rfl
/-- A call of '(*carfax/carfaxref15.Disk).Append', by its condition. -/
theorem S23_calls {d : Option Addr} {b : ByteArray} {w : World} {R : Value → World → Prop} (hS : S23 d b w R) : Ret Try.prog 23 [(.pointer d), (.string b)] w R :=
  R_calls (C := ⟨cal, S23_nx⟩) cal_ok follows Try.func23 (c := Try.f23.body.getD .skip) (res := #[.tmp 4]) (n := 26) (by kernel_rfl) (by kernel_rfl) (by kernel_rfl) (by kernel_rfl) ((S23_eq d b w R).mpr hS)

def S24_ann (p : List Nat) : Option LA :=
  none

def S24_nx (t : Nat) : Option (TypeId × TypeId) := none

def S24_k2 (d : Option Addr) (l_a : Option Addr) (l_l : Nat) (l_c : Nat) (w : World) (R : Value → World → Prop) : Prop :=
  R (.tuple ⟨[(.pointer (some ⟨w.heap.size, 0, none⟩)), (.slice l_a l_l l_c), (.int .i64 0)]⟩) (w.alloc (.cells ⟨[(.pointer d), (.int .i64 ((l_l : Nat) : Int))]⟩ 55))

def S24_k1 (d : Option Addr) (l_a : Option Addr) (l_l : Nat) (l_c : Nat) (w : World) (R : Value → World → Prop) : Prop :=
  Calls Try.prog 26 ⟨[(.pointer d)]⟩ w fun e w_ =>
    ∃ (t34 : Int),
    e = .returned (.int .i64 t34) ∧
    cond (!decide ((t34 : Int) = 0)) (
      R (.tuple ⟨[(.pointer none), (.slice none 0 0), (.int .i64 t34)]⟩) w_
    ) (
      S24_k2 d l_a l_l l_c w_ R
    )

def S24_k0 (d : Option Addr) (b : ByteArray) (w : World) (R : Value → World → Prop) : Prop :=
  ∃ (t19_a : Option Addr) (t19_l : Nat) (t19_c : Nat) (w_ : World),
  (convert 9 30 (.string b)).run Try.prog w = .ok (.slice t19_a t19_l t19_c) w_ ∧
  Calls Try.prog 36 ⟨[(.slice t19_a t19_l t19_c)]⟩ w_ fun e w__1 =>
    ∃ (t20_0_a : Option Addr) (t20_0_l : Nat) (t20_0_c : Nat) (t20_1 : Int),
    e = .returned (.tuple ⟨[(.slice t20_0_a t20_0_l t20_0_c), (.int .i64 t20_1)]⟩) ∧
    cond (decide ((t20_1 : Int) < ((ByteArray.size b : Nat) : Int))) (
      Calls Try.prog 37 ⟨[(.pointer d), (.int .i64 t20_1)]⟩ w__1 fun e w__2 =>
        ∃ (t29 : Int),
        e = .returned (.int .i64 t29) ∧
        cond (!decide ((t29 : Int) = 0)) (
          R (.tuple ⟨[(.pointer none), (.slice none 0 0), (.int .i64 t29)]⟩) w__2
        ) (
          S24_k1 d t20_0_a t20_0_l t20_0_c w__2 R
        )
    ) (
      S24_k1 d t20_0_a t20_0_l t20_0_c w__1 R
    )

def S24 (d : Option Addr) (w : World) (R : Value → World → Prop) : Prop :=
  Calls Try.prog 29 ⟨[(.pointer d)]⟩ w fun e w_ =>
    ∃ (t11_0 : ByteArray) (t11_1 : Int),
    e = .returned (.tuple ⟨[(.string t11_0), (.int .i64 t11_1)]⟩) ∧
    cond (!decide ((t11_1 : Int) = 0)) (
      R (.tuple ⟨[(.pointer none), (.slice none 0 0), (.int .i64 t11_1)]⟩) w_
    ) (
      S24_k0 d t11_0 w_ R
    )

theorem S24_eq (d : Option Addr) (w : World) (R : Value → World → Prop) : Eng.R Try.prog ⟨cal, S24_nx⟩ 44 S24_ann [] (Try.f24.body.getD .skip) (bodyQ Try.prog #[.tmp 2, .tmp 3, .tmp 4] R) (argE [(.pointer d)]) w = S24 d w R := by kernel_rfl
/-- A call of 'carfax/carfaxref16.Open', by its condition. -/
theorem S24_calls {d : Option Addr} {w : World} {R : Value → World → Prop} (hS : S24 d w R) : Ret Try.prog 24 [(.pointer d)] w R :=
  R_calls (C := ⟨cal, S24_nx⟩) cal_ok follows Try.func24 (c := Try.f24.body.getD .skip) (res := #[.tmp 2, .tmp 3, .tmp 4]) (n := 44) (by kernel_rfl) (by kernel_rfl) (by kernel_rfl) (by kernel_rfl) ((S24_eq d w R).mpr hS)

def S25_ann (p : List Nat) : Option LA :=
  none

def S25_nx (t : Nat) : Option (TypeId × TypeId) := none

def S25_k1 (j : Option Addr) (e_1 : Int) (w : World) (R : Value → World → Prop) : Prop :=
  cond (decide ((e_1 : Int) = 0)) (
    ∃ (t25 : Addr),
    j = some t25 ∧
    ∃ (t27 : Int),
    w.cell? (t25.add 1) = some (.int .i64 t27) ∧
    ∃ (t29 : Addr),
    j = some t29 ∧
    (∃ u, w.cell? (t29.add 1) = some u) ∧
    w.frozen? (t29.add 1) = false ∧
    R (.int .i64 e_1) (w.setCell (t29.add 1) (.int .i64 (IntKind.i64.wrap (t27 + 1))))
  ) (
    R (.int .i64 e_1) w
  )

def S25_k0 (j : Option Addr) (f_a : Option Addr) (f_l : Nat) (f_c : Nat) (w : World) (R : Value → World → Prop) : Prop :=
  ∃ (t16 : Addr),
  j = some t16 ∧
  (
    ∃ (t18 : Option Addr),
    w.drew.cell? t16 = some (.pointer t18) ∧
    ∃ (t20 : ByteArray) (w_ : World),
    (convert 30 9 (.slice f_a f_l f_c)).run Try.prog w.drew = .ok (.string t20) w_ ∧
    Calls Try.prog 23 ⟨[(.pointer t18), (.string t20)]⟩ w_ fun e w__1 =>
      ∃ (t21 : Int),
      e = .returned (.int .i64 t21) ∧
      S25_k1 j t21 w__1 R
  ) ∧
  (
    ∃ (t20_1 : ByteArray) (w__2 : World),
    (convert 30 9 (.slice f_a f_l f_c)).run Try.prog w.drew = .ok (.string t20_1) w__2 ∧
    ∃ (t18_1 : Option Addr),
    w__2.cell? t16 = some (.pointer t18_1) ∧
    Calls Try.prog 23 ⟨[(.pointer t18_1), (.string t20_1)]⟩ w__2 fun e w__3 =>
      ∃ (t21_1 : Int),
      e = .returned (.int .i64 t21_1) ∧
      S25_k1 j t21_1 w__3 R
  )

def S25 (j : Option Addr) (b_a : Option Addr) (b_l : Nat) (b_c : Nat) (w : World) (R : Value → World → Prop) : Prop :=
  Calls Try.prog 38 ⟨[(.slice b_a b_l b_c)]⟩ w fun e w_ =>
    ∃ (t9_0_a : Option Addr) (t9_0_l : Nat) (t9_0_c : Nat) (t9_1 : Int),
    e = .returned (.tuple ⟨[(.slice t9_0_a t9_0_l t9_0_c), (.int .i64 t9_1)]⟩) ∧
    cond (!decide ((t9_1 : Int) = 0)) (
      R (.int .i64 t9_1) w_
    ) (
      S25_k0 j t9_0_a t9_0_l t9_0_c w_ R
    )

theorem S25_eq (j : Option Addr) (b_a : Option Addr) (b_l : Nat) (b_c : Nat) (w : World) (R : Value → World → Prop) : Eng.R Try.prog ⟨cal, S25_nx⟩ 32 S25_ann [] (Try.f25.body.getD .skip) (bodyQ Try.prog #[.tmp 4] R) (argE [(.pointer j), (.slice b_a b_l b_c)]) w = S25 j b_a b_l b_c w R := by kernel_rfl
/-- A call of '(*carfax/carfaxref16.Journal).Note', by its condition. -/
theorem S25_calls {j : Option Addr} {b_a : Option Addr} {b_l : Nat} {b_c : Nat} {w : World} {R : Value → World → Prop} (hS : S25 j b_a b_l b_c w R) : Ret Try.prog 25 [(.pointer j), (.slice b_a b_l b_c)] w R :=
  R_calls (C := ⟨cal, S25_nx⟩) cal_ok follows Try.func25 (c := Try.f25.body.getD .skip) (res := #[.tmp 4]) (n := 32) (by kernel_rfl) (by kernel_rfl) (by kernel_rfl) (by kernel_rfl) ((S25_eq j b_a b_l b_c w R).mpr hS)

def S26_ann (p : List Nat) : Option LA :=
  none

def S26_nx (t : Nat) : Option (TypeId × TypeId) := none

def S26_k0 (d : Option Addr) (w : World) (R : Value → World → Prop) : Prop :=
  ∃ (t8 : Addr),
  d = some t8 ∧
  ∃ (t10 : ByteArray),
  w.cell? t8 = some (.string t10) ∧
  ∃ (t12 : Addr),
  d = some t12 ∧
  (∃ u, w.cell? (t12.add 1) = some u) ∧
  w.frozen? (t12.add 1) = false ∧
  R (.int .i64 0) (w.setCell (t12.add 1) (.int .i64 ((ByteArray.size t10 : Nat) : Int)))

def S26 (d : Option Addr) (w : World) (R : Value → World → Prop) : Prop :=
  Calls Try.prog 35 ⟨[(.pointer d)]⟩ w fun e w_ =>
    ∃ (t4 : Bool),
    e = .returned (.bool t4) ∧
    cond (!t4) (
      R (.int .i64 5) w_
    ) (
      S26_k0 d w_ R
    )

theorem S26_eq (d : Option Addr) (w : World) (R : Value → World → Prop) : Eng.R Try.prog ⟨cal, S26_nx⟩ 14 S26_ann [] (Try.f26.body.getD .skip) (bodyQ Try.prog #[.tmp 2] R) (argE [(.pointer d)]) w = S26 d w R := by kernel_rfl
/-- A call of '(*carfax/carfaxref15.Disk).Sync', by its condition. -/
theorem S26_calls {d : Option Addr} {w : World} {R : Value → World → Prop} (hS : S26 d w R) : Ret Try.prog 26 [(.pointer d)] w R :=
  R_calls (C := ⟨cal, S26_nx⟩) cal_ok follows Try.func26 (c := Try.f26.body.getD .skip) (res := #[.tmp 2]) (n := 14) (by kernel_rfl) (by kernel_rfl) (by kernel_rfl) (by kernel_rfl) ((S26_eq d w R).mpr hS)

def S27_ann (p : List Nat) : Option LA :=
  none

def S27_nx (t : Nat) : Option (TypeId × TypeId) := none

def S27 (d : Option Addr) (after : Int) (w : World) (R : Value → World → Prop) : Prop :=
  ∃ (t5 : Addr),
  d = some t5 ∧
  ∃ (t7 : Bool),
  w.cell? (t5.add 2) = some (.bool t7) ∧
  cond (!t7) (
    ∃ (t12 : Addr),
    d = some t12 ∧
    (∃ u, w.cell? (t12.add 3) = some u) ∧
    w.frozen? (t12.add 3) = false ∧
    R (.tuple ⟨[]⟩) (w.setCell (t12.add 3) (.int .i64 (if (-1) > after then (-1) else after)))
  ) (
    R (.tuple ⟨[]⟩) w
  )

theorem S27_eq (d : Option Addr) (after : Int) (w : World) (R : Value → World → Prop) : Eng.R Try.prog ⟨cal, S27_nx⟩ 14 S27_ann [] (Try.f27.body.getD .skip) (bodyQ Try.prog #[] R) (argE [(.pointer d), (.int .i64 after)]) w = S27 d after w R := by kernel_rfl
/-- A call of '(*carfax/carfaxref15.Disk).Cut', by its condition. -/
theorem S27_calls {d : Option Addr} {after : Int} {w : World} {R : Value → World → Prop} (hS : S27 d after w R) : Ret Try.prog 27 [(.pointer d), (.int .i64 after)] w R :=
  R_calls (C := ⟨cal, S27_nx⟩) cal_ok follows Try.func27 (c := Try.f27.body.getD .skip) (res := #[]) (n := 14) (by kernel_rfl) (by kernel_rfl) (by kernel_rfl) (by kernel_rfl) ((S27_eq d after w R).mpr hS)

def S28_ann (p : List Nat) : Option LA :=
  none

def S28_nx (t : Nat) : Option (TypeId × TypeId) := none

def S28_k1 (d : Option Addr) (w : World) (R : Value → World → Prop) : Prop :=
  ∃ (t34 : Addr),
  d = some t34 ∧
  ∃ (t36 : ByteArray),
  w.cell? t34 = some (.string t36) ∧
  ∃ (t38 : Addr),
  d = some t38 ∧
  (∃ u, w.cell? (t38.add 1) = some u) ∧
  w.frozen? (t38.add 1) = false ∧
  ∃ (t41 : Addr),
  d = some t41 ∧
  (∃ u, (w.setCell (t38.add 1) (.int .i64 ((ByteArray.size t36 : Nat) : Int))).cell? (t41.add 2) = some u) ∧
  (w.setCell (t38.add 1) (.int .i64 ((ByteArray.size t36 : Nat) : Int))).frozen? (t41.add 2) = false ∧
  ∃ (t44 : Addr),
  d = some t44 ∧
  (∃ u, ((w.setCell (t38.add 1) (.int .i64 ((ByteArray.size t36 : Nat) : Int))).setCell (t41.add 2) (.bool false)).cell? (t44.add 3) = some u) ∧
  ((w.setCell (t38.add 1) (.int .i64 ((ByteArray.size t36 : Nat) : Int))).setCell (t41.add 2) (.bool false)).frozen? (t44.add 3) = false ∧
  R (.tuple ⟨[]⟩) (((w.setCell (t38.add 1) (.int .i64 ((ByteArray.size t36 : Nat) : Int))).setCell (t41.add 2) (.bool false)).setCell (t44.add 3) (.int .i64 (-1)))

def S28_k0 (d : Option Addr) (n_ : Int) (w : World) (R : Value → World → Prop) : Prop :=
  ∃ (t20 : Addr),
  d = some t20 ∧
  ∃ (t24 : Addr),
  d = some t24 ∧
  ∃ (t26 : Int),
  w.drew.cell? (t24.add 1) = some (.int .i64 t26) ∧
  ∃ (t22 : ByteArray),
  w.drew.cell? t20 = some (.string t22) ∧
  0 ≤ ((IntKind.i64.wrap (t26 + n_)) : Int) ∧
  ((IntKind.i64.wrap (t26 + n_)) : Int) ≤ (((ByteArray.size t22) : Nat) : Int) ∧
  ∃ (t30 : Addr),
  d = some t30 ∧
  (∃ u, w.drew.cell? t30 = some u) ∧
  w.drew.frozen? t30 = false ∧
  S28_k1 d (w.drew.setCell t30 (.string (ByteArray.extract t22 0 (Int.toNat (IntKind.i64.wrap (t26 + n_)))))) R

def S28 (d : Option Addr) (keep : Int) (w : World) (R : Value → World → Prop) : Prop :=
  ∃ (t7 : Addr),
  d = some t7 ∧
  ∃ (t12 : Addr),
  d = some t12 ∧
  ∃ (t9 : ByteArray),
  w.drew.cell? t7 = some (.string t9) ∧
  ∃ (t14 : Int),
  w.drew.cell? (t12.add 1) = some (.int .i64 t14) ∧
  S28_k0 d (if (if (IntKind.i64.wrap (((ByteArray.size t9 : Nat) : Int) - t14)) < keep then (IntKind.i64.wrap (((ByteArray.size t9 : Nat) : Int) - t14)) else keep) > 0 then (if (IntKind.i64.wrap (((ByteArray.size t9 : Nat) : Int) - t14)) < keep then (IntKind.i64.wrap (((ByteArray.size t9 : Nat) : Int) - t14)) else keep) else 0) w.drew R

theorem S28_eq (d : Option Addr) (keep : Int) (w : World) (R : Value → World → Prop) : Eng.R Try.prog ⟨cal, S28_nx⟩ 46 S28_ann [] (Try.f28.body.getD .skip) (bodyQ Try.prog #[] R) (argE [(.pointer d), (.int .i64 keep)]) w = S28 d keep w R := by kernel_rfl
/-- A call of '(*carfax/carfaxref15.Disk).Crash', by its condition. -/
theorem S28_calls {d : Option Addr} {keep : Int} {w : World} {R : Value → World → Prop} (hS : S28 d keep w R) : Ret Try.prog 28 [(.pointer d), (.int .i64 keep)] w R :=
  R_calls (C := ⟨cal, S28_nx⟩) cal_ok follows Try.func28 (c := Try.f28.body.getD .skip) (res := #[]) (n := 46) (by kernel_rfl) (by kernel_rfl) (by kernel_rfl) (by kernel_rfl) ((S28_eq d keep w R).mpr hS)

def S29_ann (p : List Nat) : Option LA :=
  none

def S29_nx (t : Nat) : Option (TypeId × TypeId) := none

def S29_k0 (d : Option Addr) (w : World) (R : Value → World → Prop) : Prop :=
  ∃ (t9 : Addr),
  d = some t9 ∧
  ∃ (t11 : ByteArray),
  w.cell? t9 = some (.string t11) ∧
  R (.tuple ⟨[(.string t11), (.int .i64 0)]⟩) w

def S29 (d : Option Addr) (w : World) (R : Value → World → Prop) : Prop :=
  ∃ (t5 : Addr),
  d = some t5 ∧
  ∃ (t7 : Bool),
  w.cell? (t5.add 2) = some (.bool t7) ∧
  cond t7 (
    R (.tuple ⟨[(.string (⟨#[]⟩ : ByteArray)), (.int .i64 5)]⟩) w
  ) (
    S29_k0 d w R
  )

theorem S29_eq (d : Option Addr) (w : World) (R : Value → World → Prop) : Eng.R Try.prog ⟨cal, S29_nx⟩ 12 S29_ann [] (Try.f29.body.getD .skip) (bodyQ Try.prog #[.tmp 2, .tmp 3] R) (argE [(.pointer d)]) w = S29 d w R := by kernel_rfl
/-- A call of '(*carfax/carfaxref15.Disk).Read', by its condition. -/
theorem S29_calls {d : Option Addr} {w : World} {R : Value → World → Prop} (hS : S29 d w R) : Ret Try.prog 29 [(.pointer d)] w R :=
  R_calls (C := ⟨cal, S29_nx⟩) cal_ok follows Try.func29 (c := Try.f29.body.getD .skip) (res := #[.tmp 2, .tmp 3]) (n := 12) (by kernel_rfl) (by kernel_rfl) (by kernel_rfl) (by kernel_rfl) ((S29_eq d w R).mpr hS)

def S30_ann (p : List Nat) : Option LA := match p with
  | [0, 1, 0, 1, 1, 1] => some ⟨[0], [(4, .one .slice), (5, .one .slice), (6, .one (.int .i64))]⟩
  | _ => none

def S30_nx (t : Nat) : Option (TypeId × TypeId) := none

def S30_k1 (b_a : Option Addr) (b_l : Nat) (b_c : Nat) (out_a : Option Addr) (out_l : Nat) (out_c : Nat) (rest_a : Option Addr) (rest_l : Nat) (rest_c : Nat) (n_ : Int) (w : World) (R : Value → World → Prop) (B1 : (Option Addr × Nat × Nat) × (Option Addr × Nat × Nat) × (Int) × Unit → World → Prop) : Prop :=
  0 ≤ ((IntKind.i64.wrap (n_ - 2)) : Int) ∧
  ((IntKind.i64.wrap (n_ - 2)) : Int) ≤ ((rest_c : Nat) : Int) ∧
  0 ≤ ((IntKind.i64.wrap (n_ - 2)) : Int) ∧
  ((IntKind.i64.wrap (n_ - 2)) : Int) ≤ (((Int.toNat (IntKind.i64.wrap (n_ - 2))) : Nat) : Int) ∧
  0 ≤ (2 : Int) ∧
  (2 : Int) ≤ (((Int.toNat (IntKind.i64.wrap (n_ - 2))) : Nat) : Int) ∧
  ∃ (t21_a : Option Addr) (t21_l : Nat) (t21_c : Nat) (w_ : World),
  (Builtin.append_ #[30, 30] 30 ⟨[(.slice none 0 0), (.slice (slAddr rest_a (Int.toNat (IntKind.i64.wrap (n_ - 2))) (Int.toNat 2) 1) ((Int.toNat (IntKind.i64.wrap (n_ - 2))) - (Int.toNat 2)) ((Int.toNat (IntKind.i64.wrap (n_ - 2))) - (Int.toNat 2)))]⟩).run Try.prog w = .ok (.slice t21_a t21_l t21_c) w_ ∧
  ∃ (t23_a : Option Addr) (t23_l : Nat) (t23_c : Nat) (w__1 : World),
  (Builtin.append_ #[22, 22] 22 ⟨[(.slice out_a out_l out_c), (.slice (some ⟨w_.heap.size, 0, none⟩) 1 1)]⟩).run Try.prog (w_.alloc (.cells ⟨[(.slice t21_a t21_l t21_c)]⟩ 30)) = .ok (.slice t23_a t23_l t23_c) w__1 ∧
  0 ≤ (n_ : Int) ∧
  (n_ : Int) ≤ ((rest_l : Nat) : Int) ∧
  Calls Try.prog 39 ⟨[(.slice (slAddr rest_a rest_c (Int.toNat n_) 1) (rest_l - (Int.toNat n_)) (rest_c - (Int.toNat n_)))]⟩ w__1 fun e w__2 =>
    ∃ (t13 : Int),
    e = .returned (.int .i64 t13) ∧
    B1 ((t23_a, t23_l, t23_c), ((slAddr rest_a rest_c (Int.toNat n_) 1), (rest_l - (Int.toNat n_)), (rest_c - (Int.toNat n_))), t13, ()) w__2

def S30_k2 (b_a : Option Addr) (b_l : Nat) (b_c : Nat) (out_a : Option Addr) (out_l : Nat) (out_c : Nat) (rest_a : Option Addr) (rest_l : Nat) (rest_c : Nat) (w : World) (R : Value → World → Prop) : Prop :=
  R (.tuple ⟨[(.slice out_a out_l out_c), (.int .i64 (IntKind.i64.wrap (((b_l : Nat) : Int) - ((rest_l : Nat) : Int))))]⟩) w

def S30_L0 (b_a : Option Addr) (b_l : Nat) (b_c : Nat) (out_a : Option Addr) (out_l : Nat) (out_c : Nat) (rest_a : Option Addr) (rest_l : Nat) (rest_c : Nat) (n_ : Int) (w : World) (R : Value → World → Prop) (B1 : (Option Addr × Nat × Nat) × (Option Addr × Nat × Nat) × (Int) × Unit → World → Prop) : Prop :=
  cond (decide ((0 : Int) < n_)) (
    S30_k1 b_a b_l b_c out_a out_l out_c rest_a rest_l rest_c n_ w R B1
  ) (
    S30_k2 b_a b_l b_c out_a out_l out_c rest_a rest_l rest_c w R
  )

def S30 (b_a : Option Addr) (b_l : Nat) (b_c : Nat) (w : World) (R : Value → World → Prop) : Prop :=
  Calls Try.prog 39 ⟨[(.slice b_a b_l b_c)]⟩ w fun e w_ =>
    ∃ (t9 : Int),
    e = .returned (.int .i64 t9) ∧
    ∃ (I : (Option Addr × Nat × Nat) × (Option Addr × Nat × Nat) × (Int) × Unit → World → Prop) (μ : (Option Addr × Nat × Nat) × (Option Addr × Nat × Nat) × (Int) × Unit → World → Nat),
    I ((none, 0, 0), (b_a, b_l, b_c), t9, ()) w_ ∧
    ∀ (J : Env) (s : (Option Addr × Nat × Nat) × (Option Addr × Nat × Nat) × (Int) × Unit) (w' : World), I s w' →
      S30_L0 b_a b_l b_c s.1.1 s.1.2.1 s.1.2.2 s.2.1.1 s.2.1.2.1 s.2.1.2.2 s.2.2.1 w' R (fun s' w'' => I s' w'' ∧ μ s' w'' < μ s w')

theorem S30_eq (b_a : Option Addr) (b_l : Nat) (b_c : Nat) (w : World) (R : Value → World → Prop) : Eng.R Try.prog ⟨cal, S30_nx⟩ 33 S30_ann [] (Try.f30.body.getD .skip) (bodyQ Try.prog #[.tmp 2, .tmp 3] R) (argE [(.slice b_a b_l b_c)]) w = S30 b_a b_l b_c w R := by kernel_rfl
/-- A call of 'carfax/check.Scan', by its condition. -/
theorem S30_calls {b_a : Option Addr} {b_l : Nat} {b_c : Nat} {w : World} {R : Value → World → Prop} (hS : S30 b_a b_l b_c w R) : Ret Try.prog 30 [(.slice b_a b_l b_c)] w R :=
  R_calls (C := ⟨cal, S30_nx⟩) cal_ok follows Try.func30 (c := Try.f30.body.getD .skip) (res := #[.tmp 2, .tmp 3]) (n := 33) (by kernel_rfl) (by kernel_rfl) (by kernel_rfl) (by kernel_rfl) ((S30_eq b_a b_l b_c w R).mpr hS)

def S31_ann (p : List Nat) : Option LA :=
  none

def S31_nx (t : Nat) : Option (TypeId × TypeId) := none

def S31_k2 (d : Option Addr) (n_ : Int) (w : World) (R : Value → World → Prop) : Prop :=
  ∃ (t25 : Addr),
  d = some t25 ∧
  ∃ (t27_a : Option Addr) (t27_l : Nat) (t27_c : Nat),
  w.cell? t25 = some (.slice t27_a t27_l t27_c) ∧
  0 ≤ (n_ : Int) ∧
  (n_ : Int) ≤ ((t27_c : Nat) : Int) ∧
  ∃ (t31 : Addr),
  d = some t31 ∧
  (∃ u, w.cell? t31 = some u) ∧
  w.frozen? t31 = false ∧
  ∃ (t33 : Addr),
  d = some t33 ∧
  (∃ u, (w.setCell t31 (.slice (slAddr t27_a t27_c 0 1) ((Int.toNat n_) - 0) (t27_c - 0))).cell? (t33.add 1) = some u) ∧
  (w.setCell t31 (.slice (slAddr t27_a t27_c 0 1) ((Int.toNat n_) - 0) (t27_c - 0))).frozen? (t33.add 1) = false ∧
  R (.int .i64 0) ((w.setCell t31 (.slice (slAddr t27_a t27_c 0 1) ((Int.toNat n_) - 0) (t27_c - 0))).setCell (t33.add 1) (.int .i64 n_))

def S31_k1 (d : Option Addr) (n_ : Int) (t21 : Bool) (w : World) (R : Value → World → Prop) : Prop :=
  cond t21 (
    R (.int .i64 1) w
  ) (
    S31_k2 d n_ w R
  )

def S31_k0 (d : Option Addr) (n_ : Int) (w : World) (R : Value → World → Prop) : Prop :=
  cond (decide ((n_ : Int) < 0)) (
    S31_k1 d n_ true w R
  ) (
    ∃ (t16 : Addr),
    d = some t16 ∧
    ∃ (t18_a : Option Addr) (t18_l : Nat) (t18_c : Nat),
    w.cell? t16 = some (.slice t18_a t18_l t18_c) ∧
    S31_k1 d n_ (decide ((((t18_l : Nat) : Int) : Int) < n_)) w R
  )

def S31 (d : Option Addr) (n_ : Int) (w : World) (R : Value → World → Prop) : Prop :=
  Calls Try.prog 34 ⟨[(.pointer d)]⟩ w fun e w_ =>
    ∃ (t7 : Int),
    e = .returned (.int .i64 t7) ∧
    cond (!decide ((t7 : Int) = 0)) (
      R (.int .i64 t7) w_
    ) (
      S31_k0 d n_ w_ R
    )

theorem S31_eq (d : Option Addr) (n_ : Int) (w : World) (R : Value → World → Prop) : Eng.R Try.prog ⟨cal, S31_nx⟩ 35 S31_ann [] (Try.f31.body.getD .skip) (bodyQ Try.prog #[.tmp 4] R) (argE [(.pointer d), (.int .i64 n_)]) w = S31 d n_ w R := by kernel_rfl
/-- A call of '(*carfax/disk.Disk).Cutoff', by its condition. -/
theorem S31_calls {d : Option Addr} {n_ : Int} {w : World} {R : Value → World → Prop} (hS : S31 d n_ w R) : Ret Try.prog 31 [(.pointer d), (.int .i64 n_)] w R :=
  R_calls (C := ⟨cal, S31_nx⟩) cal_ok follows Try.func31 (c := Try.f31.body.getD .skip) (res := #[.tmp 4]) (n := 35) (by kernel_rfl) (by kernel_rfl) (by kernel_rfl) (by kernel_rfl) ((S31_eq d n_ w R).mpr hS)

def S32_ann (p : List Nat) : Option LA :=
  none

def S32_nx (t : Nat) : Option (TypeId × TypeId) := none

def S32_k0 (d : Option Addr) (w : World) (R : Value → World → Prop) : Prop :=
  ∃ (t11 : Addr),
  d = some t11 ∧
  ∃ (t13_a : Option Addr) (t13_l : Nat) (t13_c : Nat),
  w.cell? t11 = some (.slice t13_a t13_l t13_c) ∧
  ∃ (t15 : Addr),
  d = some t15 ∧
  (∃ u, w.cell? (t15.add 1) = some u) ∧
  w.frozen? (t15.add 1) = false ∧
  R (.int .i64 0) (w.setCell (t15.add 1) (.int .i64 ((t13_l : Nat) : Int)))

def S32 (d : Option Addr) (w : World) (R : Value → World → Prop) : Prop :=
  Calls Try.prog 34 ⟨[(.pointer d)]⟩ w fun e w_ =>
    ∃ (t5 : Int),
    e = .returned (.int .i64 t5) ∧
    cond (!decide ((t5 : Int) = 0)) (
      R (.int .i64 t5) w_
    ) (
      S32_k0 d w_ R
    )

theorem S32_eq (d : Option Addr) (w : World) (R : Value → World → Prop) : Eng.R Try.prog ⟨cal, S32_nx⟩ 17 S32_ann [] (Try.f32.body.getD .skip) (bodyQ Try.prog #[.tmp 2] R) (argE [(.pointer d)]) w = S32 d w R := by kernel_rfl
/-- A call of '(*carfax/disk.Disk).Sync', by its condition. -/
theorem S32_calls {d : Option Addr} {w : World} {R : Value → World → Prop} (hS : S32 d w R) : Ret Try.prog 32 [(.pointer d)] w R :=
  R_calls (C := ⟨cal, S32_nx⟩) cal_ok follows Try.func32 (c := Try.f32.body.getD .skip) (res := #[.tmp 2]) (n := 17) (by kernel_rfl) (by kernel_rfl) (by kernel_rfl) (by kernel_rfl) ((S32_eq d w R).mpr hS)

def S33_ann (p : List Nat) : Option LA :=
  none

def S33_nx (t : Nat) : Option (TypeId × TypeId) := none

def S33_k0 (b_a : Option Addr) (b_l : Nat) (b_c : Nat) (w : World) (R : Value → World → Prop) : Prop :=
  Calls Try.prog 40 ⟨[]⟩ w fun e w_ =>
    ∃ (t10 : Option Addr),
    e = .returned (.pointer t10) ∧
    Calls Try.prog 41 ⟨[(.pointer t10), (.int .u64 (IntKind.u64.wrap ((b_l : Nat) : Int))), (.int .i64 16)]⟩ w_ fun e w__1 =>
      ∃ (t15 : Int),
      e = .returned (.int .i64 t15) ∧
      Calls Try.prog 42 ⟨[(.pointer t10)]⟩ w__1 fun e w__2 =>
        ∃ (t17_a : Option Addr) (t17_l : Nat) (t17_c : Nat),
        e = .returned (.slice t17_a t17_l t17_c) ∧
        ∃ (t19_a : Option Addr) (t19_l : Nat) (t19_c : Nat) (w__3 : World),
        (Builtin.append_ #[30, 30] 30 ⟨[(.slice t17_a t17_l t17_c), (.slice b_a b_l b_c)]⟩).run Try.prog w__2 = .ok (.slice t19_a t19_l t19_c) w__3 ∧
        Calls Try.prog 40 ⟨[]⟩ w__3 fun e w__4 =>
          ∃ (t20 : Option Addr),
          e = .returned (.pointer t20) ∧
          Calls Try.prog 43 ⟨[(.slice t19_a t19_l t19_c)]⟩ w__4 fun e w__5 =>
            ∃ (t23 : Int),
            e = .returned (.int .u16 t23) ∧
            Calls Try.prog 41 ⟨[(.pointer t20), (.int .u64 (IntKind.u64.wrap t23)), (.int .i64 16)]⟩ w__5 fun e w__6 =>
              ∃ (t25 : Int),
              e = .returned (.int .i64 t25) ∧
              Calls Try.prog 42 ⟨[(.pointer t20)]⟩ w__6 fun e w__7 =>
                ∃ (t28_a : Option Addr) (t28_l : Nat) (t28_c : Nat),
                e = .returned (.slice t28_a t28_l t28_c) ∧
                ∃ (t29_a : Option Addr) (t29_l : Nat) (t29_c : Nat) (w__8 : World),
                (Builtin.append_ #[30, 30] 30 ⟨[(.slice t19_a t19_l t19_c), (.slice t28_a t28_l t28_c)]⟩).run Try.prog w__7 = .ok (.slice t29_a t29_l t29_c) w__8 ∧
                R (.tuple ⟨[(.slice t29_a t29_l t29_c), (.int .i64 0)]⟩) w__8

def S33 (b_a : Option Addr) (b_l : Nat) (b_c : Nat) (w : World) (R : Value → World → Prop) : Prop :=
  cond (decide ((1000 : Int) < ((b_l : Nat) : Int))) (
    R (.tuple ⟨[(.slice none 0 0), (.int .i64 4)]⟩) w
  ) (
    S33_k0 b_a b_l b_c w R
  )

theorem S33_eq (b_a : Option Addr) (b_l : Nat) (b_c : Nat) (w : World) (R : Value → World → Prop) : Eng.R Try.prog ⟨cal, S33_nx⟩ 30 S33_ann [] (Try.f33.body.getD .skip) (bodyQ Try.prog #[.tmp 2, .tmp 3] R) (argE [(.slice b_a b_l b_c)]) w = S33 b_a b_l b_c w R := by kernel_rfl
/-- A call of 'carfax/check.Frame', by its condition. -/
theorem S33_calls {b_a : Option Addr} {b_l : Nat} {b_c : Nat} {w : World} {R : Value → World → Prop} (hS : S33 b_a b_l b_c w R) : Ret Try.prog 33 [(.slice b_a b_l b_c)] w R :=
  R_calls (C := ⟨cal, S33_nx⟩) cal_ok follows Try.func33 (c := Try.f33.body.getD .skip) (res := #[.tmp 2, .tmp 3]) (n := 30) (by kernel_rfl) (by kernel_rfl) (by kernel_rfl) (by kernel_rfl) ((S33_eq b_a b_l b_c w R).mpr hS)

def S34_ann (p : List Nat) : Option LA :=
  none

def S34_nx (t : Nat) : Option (TypeId × TypeId) := none

def S34 (d : Option Addr) (w : World) (R : Value → World → Prop) : Prop :=
  cond (Option.isNone d) (
    R (.int .i64 2) w
  ) (
    ∃ (t8 : Addr),
    d = some t8 ∧
    ∃ (t10 : Bool),
    w.cell? (t8.add 2) = some (.bool t10) ∧
    cond t10 (
      R (.int .i64 5) w
    ) (
      ∃ (t13 : Addr),
      d = some t13 ∧
      ∃ (t15 : Int),
      w.cell? (t13.add 3) = some (.int .i64 t15) ∧
      cond (decide ((t15 : Int) = 0)) (
        ∃ (t19 : Addr),
        d = some t19 ∧
        (∃ u, w.cell? (t19.add 2) = some u) ∧
        w.frozen? (t19.add 2) = false ∧
        ∃ (t21 : Addr),
        d = some t21 ∧
        (∃ u, (w.setCell (t19.add 2) (.bool true)).cell? (t21.add 3) = some u) ∧
        (w.setCell (t19.add 2) (.bool true)).frozen? (t21.add 3) = false ∧
        R (.int .i64 5) ((w.setCell (t19.add 2) (.bool true)).setCell (t21.add 3) (.int .i64 (-1)))
      ) (
        ∃ (t25 : Addr),
        d = some t25 ∧
        ∃ (t27 : Int),
        w.cell? (t25.add 3) = some (.int .i64 t27) ∧
        cond (decide ((0 : Int) < t27)) (
          ∃ (t30 : Addr),
          d = some t30 ∧
          ∃ (t32 : Int),
          w.cell? (t30.add 3) = some (.int .i64 t32) ∧
          ∃ (t34 : Addr),
          d = some t34 ∧
          (∃ u, w.cell? (t34.add 3) = some u) ∧
          w.frozen? (t34.add 3) = false ∧
          R (.int .i64 0) (w.setCell (t34.add 3) (.int .i64 (IntKind.i64.wrap (t32 - 1))))
        ) (
          R (.int .i64 0) w
        )
      )
    )
  )

theorem S34_eq (d : Option Addr) (w : World) (R : Value → World → Prop) : Eng.R Try.prog ⟨cal, S34_nx⟩ 36 S34_ann [] (Try.f34.body.getD .skip) (bodyQ Try.prog #[.tmp 2] R) (argE [(.pointer d)]) w = S34 d w R := by kernel_rfl
/-- A call of '(*carfax/disk.Disk).power', by its condition. -/
theorem S34_calls {d : Option Addr} {w : World} {R : Value → World → Prop} (hS : S34 d w R) : Ret Try.prog 34 [(.pointer d)] w R :=
  R_calls (C := ⟨cal, S34_nx⟩) cal_ok follows Try.func34 (c := Try.f34.body.getD .skip) (res := #[.tmp 2]) (n := 36) (by kernel_rfl) (by kernel_rfl) (by kernel_rfl) (by kernel_rfl) ((S34_eq d w R).mpr hS)

def S35_ann (p : List Nat) : Option LA :=
  none

def S35_nx (t : Nat) : Option (TypeId × TypeId) := none

def S35_k2 (d : Option Addr) (w : World) (R : Value → World → Prop) : Prop :=
  ∃ (t34 : Addr),
  d = some t34 ∧
  ∃ (t36 : Bool),
  w.cell? (t34.add 2) = some (.bool t36) ∧
  R (.bool (!t36)) w

def S35_k1 (d : Option Addr) (t25 : Bool) (w : World) (R : Value → World → Prop) : Prop :=
  cond t25 (
    ∃ (t27 : Addr),
    d = some t27 ∧
    ∃ (t29 : Int),
    w.cell? (t27.add 3) = some (.int .i64 t29) ∧
    ∃ (t31 : Addr),
    d = some t31 ∧
    (∃ u, w.cell? (t31.add 3) = some u) ∧
    w.frozen? (t31.add 3) = false ∧
    S35_k2 d (w.setCell (t31.add 3) (.int .i64 (IntKind.i64.wrap (t29 - 1)))) R
  ) (
    S35_k2 d w R
  )

def S35_k0 (d : Option Addr) (w : World) (R : Value → World → Prop) : Prop :=
  ∃ (t15 : Addr),
  d = some t15 ∧
  ∃ (t17 : Bool),
  w.cell? (t15.add 2) = some (.bool t17) ∧
  cond (!t17) (
    ∃ (t21 : Addr),
    d = some t21 ∧
    ∃ (t23 : Int),
    w.cell? (t21.add 3) = some (.int .i64 t23) ∧
    S35_k1 d (decide ((0 : Int) < t23)) w R
  ) (
    S35_k1 d false w R
  )

def S35 (d : Option Addr) (w : World) (R : Value → World → Prop) : Prop :=
  ∃ (t4 : Addr),
  d = some t4 ∧
  ∃ (t6 : Int),
  w.cell? (t4.add 3) = some (.int .i64 t6) ∧
  cond (decide ((t6 : Int) = 0)) (
    ∃ (t9 : Addr),
    d = some t9 ∧
    (∃ u, w.cell? (t9.add 2) = some u) ∧
    w.frozen? (t9.add 2) = false ∧
    ∃ (t12 : Addr),
    d = some t12 ∧
    (∃ u, (w.setCell (t9.add 2) (.bool true)).cell? (t12.add 3) = some u) ∧
    (w.setCell (t9.add 2) (.bool true)).frozen? (t12.add 3) = false ∧
    S35_k0 d ((w.setCell (t9.add 2) (.bool true)).setCell (t12.add 3) (.int .i64 (-1))) R
  ) (
    S35_k0 d w R
  )

theorem S35_eq (d : Option Addr) (w : World) (R : Value → World → Prop) : Eng.R Try.prog ⟨cal, S35_nx⟩ 38 S35_ann [] (Try.f35.body.getD .skip) (bodyQ Try.prog #[.tmp 2] R) (argE [(.pointer d)]) w = S35 d w R := by kernel_rfl
/-- A call of '(*carfax/carfaxref15.Disk).on', by its condition. -/
theorem S35_calls {d : Option Addr} {w : World} {R : Value → World → Prop} (hS : S35 d w R) : Ret Try.prog 35 [(.pointer d)] w R :=
  R_calls (C := ⟨cal, S35_nx⟩) cal_ok follows Try.func35 (c := Try.f35.body.getD .skip) (res := #[.tmp 2]) (n := 38) (by kernel_rfl) (by kernel_rfl) (by kernel_rfl) (by kernel_rfl) ((S35_eq d w R).mpr hS)

def S36_ann (p : List Nat) : Option LA := match p with
  | [0, 0, 1, 1, 1] => some ⟨[0], [(4, .one .slice), (5, .one (.int .i64))]⟩
  | _ => none

def S36_nx (t : Nat) : Option (TypeId × TypeId) := none

def S36_k3 (l_a : Option Addr) (l_l : Nat) (l_c : Nat) (at_ : Int) (w : World) (R : Value → World → Prop) : Prop :=
  R (.tuple ⟨[(.slice l_a l_l l_c), (.int .i64 at_)]⟩) w

def S36_k5 (b_a : Option Addr) (b_l : Nat) (b_c : Nat) (l_a : Option Addr) (l_l : Nat) (l_c : Nat) (at_ : Int) (n_ : Int) (x_a : Option Addr) (x_l : Nat) (x_c : Nat) (w : World) (R : Value → World → Prop) (B1 : (Option Addr × Nat × Nat) × (Int) × Unit → World → Prop) : Prop :=
  ∃ (t49_a : Option Addr) (t49_l : Nat) (t49_c : Nat) (w_ : World),
  (Builtin.append_ #[22, 22] 22 ⟨[(.slice l_a l_l l_c), (.slice (some ⟨w.heap.size, 0, none⟩) 1 1)]⟩).run Try.prog (w.alloc (.cells ⟨[(.slice x_a x_l x_c)]⟩ 30)) = .ok (.slice t49_a t49_l t49_c) w_ ∧
  B1 ((t49_a, t49_l, t49_c), (IntKind.i64.wrap (at_ + n_)), ()) w_

def S36_k4 (b_a : Option Addr) (b_l : Nat) (b_c : Nat) (l_a : Option Addr) (l_l : Nat) (l_c : Nat) (at_ : Int) (n_ : Int) (w : World) (R : Value → World → Prop) (B1 : (Option Addr × Nat × Nat) × (Int) × Unit → World → Prop) : Prop :=
  0 ≤ ((IntKind.i64.wrap (at_ + n_)) : Int) ∧
  ((IntKind.i64.wrap (at_ + n_)) : Int) ≤ ((b_c : Nat) : Int) ∧
  0 ≤ (at_ : Int) ∧
  (at_ : Int) ≤ (((Int.toNat (IntKind.i64.wrap (at_ + n_))) : Nat) : Int) ∧
  Calls Try.prog 44 ⟨[(.slice (slAddr b_a b_c (Int.toNat at_) 1) ((Int.toNat (IntKind.i64.wrap (at_ + n_))) - (Int.toNat at_)) (b_c - (Int.toNat at_)))]⟩ w fun e w_ =>
    ∃ (t41_0_a : Option Addr) (t41_0_l : Nat) (t41_0_c : Nat) (t41_1 : Bool),
    e = .returned (.tuple ⟨[(.slice t41_0_a t41_0_l t41_0_c), (.bool t41_1)]⟩) ∧
    cond (!t41_1) (
      S36_k3 l_a l_l l_c at_ w_ R
    ) (
      S36_k5 b_a b_l b_c l_a l_l l_c at_ n_ t41_0_a t41_0_l t41_0_c w_ R B1
    )

def S36_k2 (b_a : Option Addr) (b_l : Nat) (b_c : Nat) (l_a : Option Addr) (l_l : Nat) (l_c : Nat) (at_ : Int) (n_ : Int) (w : World) (R : Value → World → Prop) (B1 : (Option Addr × Nat × Nat) × (Int) × Unit → World → Prop) : Prop :=
  cond (decide (((IntKind.i64.wrap (((b_l : Nat) : Int) - at_)) : Int) < n_)) (
    S36_k3 l_a l_l l_c at_ w R
  ) (
    S36_k4 b_a b_l b_c l_a l_l l_c at_ n_ w R B1
  )

def S36_k1 (b_a : Option Addr) (b_l : Nat) (b_c : Nat) (l_a : Option Addr) (l_l : Nat) (l_c : Nat) (at_ : Int) (w : World) (R : Value → World → Prop) (B1 : (Option Addr × Nat × Nat) × (Int) × Unit → World → Prop) : Prop :=
  ∃ (t16 : Addr),
  b_a = some t16 ∧
  0 ≤ (at_ : Int) ∧
  (at_ : Int) < ((b_l : Nat) : Int) ∧
  ∃ (t23 : Addr),
  b_a = some t23 ∧
  0 ≤ ((IntKind.i64.wrap (at_ + 1)) : Int) ∧
  ((IntKind.i64.wrap (at_ + 1)) : Int) < ((b_l : Nat) : Int) ∧
  (
    ∃ (t17 : Int),
    w.drew.cell? (t16.add (Int.toNat at_ * 1)) = some (.int .u8 t17) ∧
    ∃ (t24 : Int),
    w.drew.cell? (t23.add (Int.toNat (IntKind.i64.wrap (at_ + 1)) * 1)) = some (.int .u8 t24) ∧
    S36_k2 b_a b_l b_c l_a l_l l_c at_ (IntKind.i64.wrap ((IntKind.i64.wrap ((IntKind.i64.wrap (256 * (IntKind.i64.wrap t17))) + (IntKind.i64.wrap t24))) + 4)) w.drew R B1
  ) ∧
  (
    ∃ (t24_1 : Int),
    w.drew.cell? (t23.add (Int.toNat (IntKind.i64.wrap (at_ + 1)) * 1)) = some (.int .u8 t24_1) ∧
    ∃ (t17_1 : Int),
    w.drew.cell? (t16.add (Int.toNat at_ * 1)) = some (.int .u8 t17_1) ∧
    S36_k2 b_a b_l b_c l_a l_l l_c at_ (IntKind.i64.wrap ((IntKind.i64.wrap ((IntKind.i64.wrap (256 * (IntKind.i64.wrap t17_1))) + (IntKind.i64.wrap t24_1))) + 4)) w.drew R B1
  )

def S36_L0 (b_a : Option Addr) (b_l : Nat) (b_c : Nat) (l_a : Option Addr) (l_l : Nat) (l_c : Nat) (at_ : Int) (w : World) (R : Value → World → Prop) (B1 : (Option Addr × Nat × Nat) × (Int) × Unit → World → Prop) : Prop :=
  cond (decide (((IntKind.i64.wrap (at_ + 4)) : Int) ≤ ((b_l : Nat) : Int))) (
    S36_k1 b_a b_l b_c l_a l_l l_c at_ w R B1
  ) (
    S36_k3 l_a l_l l_c at_ w R
  )

def S36 (b_a : Option Addr) (b_l : Nat) (b_c : Nat) (w : World) (R : Value → World → Prop) : Prop :=
  ∃ (I : (Option Addr × Nat × Nat) × (Int) × Unit → World → Prop) (μ : (Option Addr × Nat × Nat) × (Int) × Unit → World → Nat),
  I ((none, 0, 0), 0, ()) w ∧
  ∀ (J : Env) (s : (Option Addr × Nat × Nat) × (Int) × Unit) (w' : World), I s w' →
    S36_L0 b_a b_l b_c s.1.1 s.1.2.1 s.1.2.2 s.2.1 w' R (fun s' w'' => I s' w'' ∧ μ s' w'' < μ s w')

theorem S36_eq (b_a : Option Addr) (b_l : Nat) (b_c : Nat) (w : World) (R : Value → World → Prop) : Eng.R Try.prog ⟨cal, S36_nx⟩ 55 S36_ann [] (Try.f36.body.getD .skip) (bodyQ Try.prog #[.tmp 2, .tmp 3] R) (argE [(.slice b_a b_l b_c)]) w = S36 b_a b_l b_c w R := by kernel_rfl
/-- A call of 'carfax/carfaxref02.Scan', by its condition. -/
theorem S36_calls {b_a : Option Addr} {b_l : Nat} {b_c : Nat} {w : World} {R : Value → World → Prop} (hS : S36 b_a b_l b_c w R) : Ret Try.prog 36 [(.slice b_a b_l b_c)] w R :=
  R_calls (C := ⟨cal, S36_nx⟩) cal_ok follows Try.func36 (c := Try.f36.body.getD .skip) (res := #[.tmp 2, .tmp 3]) (n := 55) (by kernel_rfl) (by kernel_rfl) (by kernel_rfl) (by kernel_rfl) ((S36_eq b_a b_l b_c w R).mpr hS)

def S37_ann (p : List Nat) : Option LA :=
  none

def S37_nx (t : Nat) : Option (TypeId × TypeId) := none

def S37_k2 (d : Option Addr) (n_ : Int) (w : World) (R : Value → World → Prop) : Prop :=
  ∃ (t21 : Addr),
  d = some t21 ∧
  ∃ (t23 : ByteArray),
  w.cell? t21 = some (.string t23) ∧
  0 ≤ (n_ : Int) ∧
  (n_ : Int) ≤ (((ByteArray.size t23) : Nat) : Int) ∧
  ∃ (t26 : Addr),
  d = some t26 ∧
  (∃ u, w.cell? t26 = some u) ∧
  w.frozen? t26 = false ∧
  ∃ (t30 : Addr),
  d = some t30 ∧
  (∃ u, (w.setCell t26 (.string (ByteArray.extract t23 0 (Int.toNat n_)))).cell? (t30.add 1) = some u) ∧
  (w.setCell t26 (.string (ByteArray.extract t23 0 (Int.toNat n_)))).frozen? (t30.add 1) = false ∧
  R (.int .i64 0) ((w.setCell t26 (.string (ByteArray.extract t23 0 (Int.toNat n_)))).setCell (t30.add 1) (.int .i64 n_))

def S37_k1 (d : Option Addr) (n_ : Int) (t18 : Bool) (w : World) (R : Value → World → Prop) : Prop :=
  cond t18 (
    R (.int .i64 1) w
  ) (
    S37_k2 d n_ w R
  )

def S37_k0 (d : Option Addr) (n_ : Int) (w : World) (R : Value → World → Prop) : Prop :=
  cond (decide ((n_ : Int) < 0)) (
    S37_k1 d n_ true w R
  ) (
    ∃ (t13 : Addr),
    d = some t13 ∧
    ∃ (t15 : ByteArray),
    w.cell? t13 = some (.string t15) ∧
    S37_k1 d n_ (decide ((((ByteArray.size t15 : Nat) : Int) : Int) < n_)) w R
  )

def S37 (d : Option Addr) (n_ : Int) (w : World) (R : Value → World → Prop) : Prop :=
  Calls Try.prog 35 ⟨[(.pointer d)]⟩ w fun e w_ =>
    ∃ (t6 : Bool),
    e = .returned (.bool t6) ∧
    cond (!t6) (
      R (.int .i64 5) w_
    ) (
      S37_k0 d n_ w_ R
    )

theorem S37_eq (d : Option Addr) (n_ : Int) (w : World) (R : Value → World → Prop) : Eng.R Try.prog ⟨cal, S37_nx⟩ 32 S37_ann [] (Try.f37.body.getD .skip) (bodyQ Try.prog #[.tmp 4] R) (argE [(.pointer d), (.int .i64 n_)]) w = S37 d n_ w R := by kernel_rfl
/-- A call of '(*carfax/carfaxref15.Disk).Cutoff', by its condition. -/
theorem S37_calls {d : Option Addr} {n_ : Int} {w : World} {R : Value → World → Prop} (hS : S37 d n_ w R) : Ret Try.prog 37 [(.pointer d), (.int .i64 n_)] w R :=
  R_calls (C := ⟨cal, S37_nx⟩) cal_ok follows Try.func37 (c := Try.f37.body.getD .skip) (res := #[.tmp 4]) (n := 32) (by kernel_rfl) (by kernel_rfl) (by kernel_rfl) (by kernel_rfl) ((S37_eq d n_ w R).mpr hS)

def S38_ann (p : List Nat) : Option LA :=
  none

def S38_nx (t : Nat) : Option (TypeId × TypeId) := none

def S38_k0 (b_a : Option Addr) (b_l : Nat) (b_c : Nat) (w : World) (R : Value → World → Prop) : Prop :=
  Calls Try.prog 45 ⟨[(.int .i64 ((b_l : Nat) : Int))]⟩ w fun e w_ =>
    ∃ (t10_a : Option Addr) (t10_l : Nat) (t10_c : Nat),
    e = .returned (.slice t10_a t10_l t10_c) ∧
    ∃ (t13_a : Option Addr) (t13_l : Nat) (t13_c : Nat) (w__1 : World),
    (Builtin.append_ #[30, 30] 30 ⟨[(.slice t10_a t10_l t10_c), (.slice b_a b_l b_c)]⟩).run Try.prog w_ = .ok (.slice t13_a t13_l t13_c) w__1 ∧
    Calls Try.prog 46 ⟨[(.slice t13_a t13_l t13_c)]⟩ w__1 fun e w__2 =>
      ∃ (t16 : Int),
      e = .returned (.int .u16 t16) ∧
      Calls Try.prog 45 ⟨[(.int .i64 (IntKind.i64.wrap t16))]⟩ w__2 fun e w__3 =>
        ∃ (t18_a : Option Addr) (t18_l : Nat) (t18_c : Nat),
        e = .returned (.slice t18_a t18_l t18_c) ∧
        ∃ (t19_a : Option Addr) (t19_l : Nat) (t19_c : Nat) (w__4 : World),
        (Builtin.append_ #[30, 30] 30 ⟨[(.slice t13_a t13_l t13_c), (.slice t18_a t18_l t18_c)]⟩).run Try.prog w__3 = .ok (.slice t19_a t19_l t19_c) w__4 ∧
        R (.tuple ⟨[(.slice t19_a t19_l t19_c), (.int .i64 0)]⟩) w__4

def S38 (b_a : Option Addr) (b_l : Nat) (b_c : Nat) (w : World) (R : Value → World → Prop) : Prop :=
  cond (decide ((1000 : Int) < ((b_l : Nat) : Int))) (
    R (.tuple ⟨[(.slice none 0 0), (.int .i64 4)]⟩) w
  ) (
    S38_k0 b_a b_l b_c w R
  )

theorem S38_eq (b_a : Option Addr) (b_l : Nat) (b_c : Nat) (w : World) (R : Value → World → Prop) : Eng.R Try.prog ⟨cal, S38_nx⟩ 21 S38_ann [] (Try.f38.body.getD .skip) (bodyQ Try.prog #[.tmp 2, .tmp 3] R) (argE [(.slice b_a b_l b_c)]) w = S38 b_a b_l b_c w R := by kernel_rfl
/-- A call of 'carfax/carfaxref02.Frame', by its condition. -/
theorem S38_calls {b_a : Option Addr} {b_l : Nat} {b_c : Nat} {w : World} {R : Value → World → Prop} (hS : S38 b_a b_l b_c w R) : Ret Try.prog 38 [(.slice b_a b_l b_c)] w R :=
  R_calls (C := ⟨cal, S38_nx⟩) cal_ok follows Try.func38 (c := Try.f38.body.getD .skip) (res := #[.tmp 2, .tmp 3]) (n := 21) (by kernel_rfl) (by kernel_rfl) (by kernel_rfl) (by kernel_rfl) ((S38_eq b_a b_l b_c w R).mpr hS)

def S39_ann (p : List Nat) : Option LA :=
  none

def S39_nx (t : Nat) : Option (TypeId × TypeId) := none

def S39_k3 (n_ : Int) (t34 : Bool) (w : World) (R : Value → World → Prop) : Prop :=
  cond t34 (
    R (.int .i64 0) w
  ) (
    R (.int .i64 n_) w
  )

def S39_k2 (b_a : Option Addr) (b_l : Nat) (b_c : Nat) (n_ : Int) (w : World) (R : Value → World → Prop) : Prop :=
  0 ≤ (n_ : Int) ∧
  (n_ : Int) ≤ ((b_c : Nat) : Int) ∧
  0 ≤ ((IntKind.i64.wrap (n_ - 2)) : Int) ∧
  ((IntKind.i64.wrap (n_ - 2)) : Int) ≤ (((Int.toNat n_) : Nat) : Int) ∧
  0 ≤ ((IntKind.i64.wrap (n_ - 2)) : Int) ∧
  ((IntKind.i64.wrap (n_ - 2)) : Int) ≤ ((b_c : Nat) : Int) ∧
  Calls Try.prog 47 ⟨[(.slice (slAddr b_a b_c (Int.toNat (IntKind.i64.wrap (n_ - 2))) 1) ((Int.toNat n_) - (Int.toNat (IntKind.i64.wrap (n_ - 2)))) (b_c - (Int.toNat (IntKind.i64.wrap (n_ - 2)))))]⟩ w.drew fun e w_ =>
    ∃ (t26 : Option Addr),
    e = .returned (.pointer t26) ∧
    Calls Try.prog 48 ⟨[(.pointer t26), (.int .i64 16)]⟩ w_ fun e w__1 =>
      ∃ (t27 : Int),
      e = .returned (.int .u64 t27) ∧
      Calls Try.prog 43 ⟨[(.slice (slAddr b_a b_c 0 1) ((Int.toNat (IntKind.i64.wrap (n_ - 2))) - 0) (b_c - 0))]⟩ w__1 fun e w__2 =>
        ∃ (t32 : Int),
        e = .returned (.int .u16 t32) ∧
        S39_k3 n_ (!decide ((t27 : Int) = (IntKind.u64.wrap t32))) w__2 R

def S39_k1 (b_a : Option Addr) (b_l : Nat) (b_c : Nat) (n_ : Int) (t20 : Bool) (w : World) (R : Value → World → Prop) : Prop :=
  cond t20 (
    R (.int .i64 0) w
  ) (
    S39_k2 b_a b_l b_c n_ w R
  )

def S39_k0 (b_a : Option Addr) (b_l : Nat) (b_c : Nat) (w : World) (R : Value → World → Prop) : Prop :=
  0 ≤ (2 : Int) ∧
  (2 : Int) ≤ ((b_c : Nat) : Int) ∧
  Calls Try.prog 47 ⟨[(.slice (slAddr b_a b_c 0 1) ((Int.toNat 2) - 0) (b_c - 0))]⟩ w fun e w_ =>
    ∃ (t9 : Option Addr),
    e = .returned (.pointer t9) ∧
    Calls Try.prog 48 ⟨[(.pointer t9), (.int .i64 16)]⟩ w_ fun e w__1 =>
      ∃ (t10 : Int),
      e = .returned (.int .u64 t10) ∧
      cond (decide ((((b_l : Nat) : Int) : Int) < (IntKind.i64.wrap ((IntKind.i64.wrap t10) + 4)))) (
        S39_k1 b_a b_l b_c (IntKind.i64.wrap ((IntKind.i64.wrap t10) + 4)) true w__1 R
      ) (
        S39_k1 b_a b_l b_c (IntKind.i64.wrap ((IntKind.i64.wrap t10) + 4)) (decide ((1004 : Int) < (IntKind.i64.wrap ((IntKind.i64.wrap t10) + 4)))) w__1 R
      )

def S39 (b_a : Option Addr) (b_l : Nat) (b_c : Nat) (w : World) (R : Value → World → Prop) : Prop :=
  cond (decide ((((b_l : Nat) : Int) : Int) < 4)) (
    R (.int .i64 0) w
  ) (
    S39_k0 b_a b_l b_c w R
  )

theorem S39_eq (b_a : Option Addr) (b_l : Nat) (b_c : Nat) (w : World) (R : Value → World → Prop) : Eng.R Try.prog ⟨cal, S39_nx⟩ 36 S39_ann [] (Try.f39.body.getD .skip) (bodyQ Try.prog #[.tmp 2] R) (argE [(.slice b_a b_l b_c)]) w = S39 b_a b_l b_c w R := by kernel_rfl
/-- A call of 'carfax/check.size', by its condition. -/
theorem S39_calls {b_a : Option Addr} {b_l : Nat} {b_c : Nat} {w : World} {R : Value → World → Prop} (hS : S39 b_a b_l b_c w R) : Ret Try.prog 39 [(.slice b_a b_l b_c)] w R :=
  R_calls (C := ⟨cal, S39_nx⟩) cal_ok follows Try.func39 (c := Try.f39.body.getD .skip) (res := #[.tmp 2]) (n := 36) (by kernel_rfl) (by kernel_rfl) (by kernel_rfl) (by kernel_rfl) ((S39_eq b_a b_l b_c w R).mpr hS)

def S40_ann (p : List Nat) : Option LA :=
  none

def S40_nx (t : Nat) : Option (TypeId × TypeId) := none

def S40 (w : World) (R : Value → World → Prop) : Prop :=
  R (.pointer (some ⟨w.heap.size, 0, none⟩)) (w.alloc (.cells ⟨[(.slice none 0 0), (.int .i64 0)]⟩ 82))

theorem S40_eq (w : World) (R : Value → World → Prop) : Eng.R Try.prog ⟨cal, S40_nx⟩ 2 S40_ann [] (Try.f40.body.getD .skip) (bodyQ Try.prog #[.tmp 0] R) (argE []) w = S40  w R := by kernel_rfl
/-- A call of 'carfax/bits.NewWriter', by its condition. -/
theorem S40_calls {w : World} {R : Value → World → Prop} (hS : S40  w R) : Ret Try.prog 40 [] w R :=
  R_calls (C := ⟨cal, S40_nx⟩) cal_ok follows Try.func40 (c := Try.f40.body.getD .skip) (res := #[.tmp 0]) (n := 2) (by kernel_rfl) (by kernel_rfl) (by kernel_rfl) (by kernel_rfl) ((S40_eq  w R).mpr hS)

def S41_ann (p : List Nat) : Option LA := match p with
  | [0, 1, 0, 1, 1, 1] => some ⟨[1, 7], [(8, .one (.int .i64))]⟩
  | _ => none

def S41_nx (t : Nat) : Option (TypeId × TypeId) := none

def S41_k3 (n_ : Int) (lay_f0 : Option Addr) (k : Int) (w : World) (R : Value → World → Prop) (B1 : (Int) × Unit → World → Prop) : Prop :=
  0 ≤ (k : Int) ∧
  Calls Try.prog 49 ⟨[(.pointer lay_f0), (.bool (decide (((bitsI .and .u64 (Int.fdiv n_ (2 ^ (min (Int.toNat k) (IntKind.u64.bits)))) 1) : Int) = 1)))]⟩ w fun e w_ =>
    e = .returned (.tuple ⟨[]⟩) ∧
    B1 ((IntKind.i64.wrap (k - 1)), ()) w_

def S41_L2 (n_ : Int) (lay_f0 : Option Addr) (k : Int) (w : World) (R : Value → World → Prop) (B1 : (Int) × Unit → World → Prop) : Prop :=
  cond (decide ((0 : Int) ≤ k)) (
    S41_k3 n_ lay_f0 k w R B1
  ) (
    R (.int .i64 0) w
  )

def S41_k1 (w_ : Option Addr) (n_ : Int) (many : Int) (w : World) (R : Value → World → Prop) : Prop :=
  ∃ (I : (Int) × Unit → World → Prop) (μ : (Int) × Unit → World → Nat),
  I ((IntKind.i64.wrap (many - 1)), ()) w ∧
  ∀ (J : Env) (s : (Int) × Unit) (w' : World), I s w' →
    S41_L2 n_ w_ s.1 w' R (fun s' w'' => I s' w'' ∧ μ s' w'' < μ s w')

def S41_k0 (w_ : Option Addr) (n_ : Int) (many : Int) (t12 : Bool) (w : World) (R : Value → World → Prop) : Prop :=
  cond t12 (
    R (.int .i64 1) w
  ) (
    ∃ (t22 : Addr),
    w_ = some t22 ∧
    ∃ (t24 : Int),
    w.cell? (t22.add 1) = some (.int .i64 t24) ∧
    cond (decide (((IntKind.i64.wrap (1048576 - t24)) : Int) < many)) (
      R (.int .i64 4) w
    ) (
      S41_k1 w_ n_ many w R
    )
  )

def S41 (w_ : Option Addr) (n_ : Int) (many : Int) (w : World) (R : Value → World → Prop) : Prop :=
  cond (Option.isNone w_) (
    R (.int .i64 2) w
  ) (
    cond (decide ((many : Int) < 0)) (
      S41_k0 w_ n_ many true w R
    ) (
      S41_k0 w_ n_ many (decide ((64 : Int) < many)) w R
    )
  )

theorem S41_eq (w_ : Option Addr) (n_ : Int) (many : Int) (w : World) (R : Value → World → Prop) : Eng.R Try.prog ⟨cal, S41_nx⟩ 42 S41_ann [] (Try.f41.body.getD .skip) (bodyQ Try.prog #[.tmp 6] R) (argE [(.pointer w_), (.int .u64 n_), (.int .i64 many)]) w = S41 w_ n_ many w R := by kernel_rfl
/-- A call of '(*carfax/bits.Writer).Put', by its condition. -/
theorem S41_calls {w_ : Option Addr} {n_ : Int} {many : Int} {w : World} {R : Value → World → Prop} (hS : S41 w_ n_ many w R) : Ret Try.prog 41 [(.pointer w_), (.int .u64 n_), (.int .i64 many)] w R :=
  R_calls (C := ⟨cal, S41_nx⟩) cal_ok follows Try.func41 (c := Try.f41.body.getD .skip) (res := #[.tmp 6]) (n := 42) (by kernel_rfl) (by kernel_rfl) (by kernel_rfl) (by kernel_rfl) ((S41_eq w_ n_ many w R).mpr hS)

def S42_ann (p : List Nat) : Option LA :=
  none

def S42_nx (t : Nat) : Option (TypeId × TypeId) := none

def S42_k0 (w_ : Option Addr) (w : World) (R : Value → World → Prop) : Prop :=
  ∃ (t6 : Addr),
  w_ = some t6 ∧
  ∃ (t8_a : Option Addr) (t8_l : Nat) (t8_c : Nat),
  w.cell? t6 = some (.slice t8_a t8_l t8_c) ∧
  ∃ (t9_a : Option Addr) (t9_l : Nat) (t9_c : Nat) (w__1 : World),
  (Builtin.append_ #[30, 30] 30 ⟨[(.slice none 0 0), (.slice t8_a t8_l t8_c)]⟩).run Try.prog w = .ok (.slice t9_a t9_l t9_c) w__1 ∧
  R (.slice t9_a t9_l t9_c) w__1

def S42 (w_ : Option Addr) (w : World) (R : Value → World → Prop) : Prop :=
  cond (Option.isNone w_) (
    R (.slice none 0 0) w
  ) (
    S42_k0 w_ w R
  )

theorem S42_eq (w_ : Option Addr) (w : World) (R : Value → World → Prop) : Eng.R Try.prog ⟨cal, S42_nx⟩ 10 S42_ann [] (Try.f42.body.getD .skip) (bodyQ Try.prog #[.tmp 2] R) (argE [(.pointer w_)]) w = S42 w_ w R := by kernel_rfl
/-- A call of '(*carfax/bits.Writer).Out', by its condition. -/
theorem S42_calls {w_ : Option Addr} {w : World} {R : Value → World → Prop} (hS : S42 w_ w R) : Ret Try.prog 42 [(.pointer w_)] w R :=
  R_calls (C := ⟨cal, S42_nx⟩) cal_ok follows Try.func42 (c := Try.f42.body.getD .skip) (res := #[.tmp 2]) (n := 10) (by kernel_rfl) (by kernel_rfl) (by kernel_rfl) (by kernel_rfl) ((S42_eq w_ w R).mpr hS)

def S43_ann (p : List Nat) : Option LA := match p with
  | [0, 1, 0, 1, 1] => some ⟨[7, 8], [(3, .one (.int .u16)), (9, .one (.int .i64))]⟩
  | _ => none

def S43_nx (t : Nat) : Option (TypeId × TypeId) := none

def S43_k1 (r : Int) (t7_a : Option Addr) (t7_l : Nat) (t7_c : Nat) (t8 : Int) (t9 : Int) (w : World) (R : Value → World → Prop) (B1 : (Int) × (Int) × Unit → World → Prop) : Prop :=
  ∃ (t11 : Addr),
  t7_a = some t11 ∧
  0 ≤ (t9 : Int) ∧
  (t9 : Int) < ((t7_l : Nat) : Int) ∧
  ∃ (t12 : Int),
  w.cell? (t11.add (Int.toNat t9 * 1)) = some (.int .u8 t12) ∧
  0 ≤ (8 : Int) ∧
  0 ≤ (4 : Int) ∧
  0 ≤ (8 : Int) ∧
  0 ≤ (12 : Int) ∧
  0 ≤ (5 : Int) ∧
  B1 ((bitsI .xor .u16 (bitsI .xor .u16 (bitsI .xor .u16 (IntKind.u16.wrap (r * 2 ^ (min (Int.toNat 8) (IntKind.u16.bits)))) (IntKind.u16.wrap ((IntKind.u16.wrap (bitsI .xor .u8 (bitsI .xor .u8 (IntKind.u8.wrap (Int.fdiv r (2 ^ (min (Int.toNat 8) (IntKind.u16.bits))))) t12) (Int.fdiv (bitsI .xor .u8 (IntKind.u8.wrap (Int.fdiv r (2 ^ (min (Int.toNat 8) (IntKind.u16.bits))))) t12) (2 ^ (min (Int.toNat 4) (IntKind.u8.bits)))))) * 2 ^ (min (Int.toNat 12) (IntKind.u16.bits))))) (IntKind.u16.wrap ((IntKind.u16.wrap (bitsI .xor .u8 (bitsI .xor .u8 (IntKind.u8.wrap (Int.fdiv r (2 ^ (min (Int.toNat 8) (IntKind.u16.bits))))) t12) (Int.fdiv (bitsI .xor .u8 (IntKind.u8.wrap (Int.fdiv r (2 ^ (min (Int.toNat 8) (IntKind.u16.bits))))) t12) (2 ^ (min (Int.toNat 4) (IntKind.u8.bits)))))) * 2 ^ (min (Int.toNat 5) (IntKind.u16.bits))))) (IntKind.u16.wrap (bitsI .xor .u8 (bitsI .xor .u8 (IntKind.u8.wrap (Int.fdiv r (2 ^ (min (Int.toNat 8) (IntKind.u16.bits))))) t12) (Int.fdiv (bitsI .xor .u8 (IntKind.u8.wrap (Int.fdiv r (2 ^ (min (Int.toNat 8) (IntKind.u16.bits))))) t12) (2 ^ (min (Int.toNat 4) (IntKind.u8.bits))))))), (IntKind.i64.wrap (t9 + 1)), ()) w

def S43_L0 (r : Int) (t7_a : Option Addr) (t7_l : Nat) (t7_c : Nat) (t8 : Int) (t9 : Int) (w : World) (R : Value → World → Prop) (B1 : (Int) × (Int) × Unit → World → Prop) : Prop :=
  cond (decide ((t9 : Int) < t8)) (
    S43_k1 r t7_a t7_l t7_c t8 t9 w R B1
  ) (
    R (.int .u16 r) w
  )

def S43 (b_a : Option Addr) (b_l : Nat) (b_c : Nat) (w : World) (R : Value → World → Prop) : Prop :=
  ∃ (I : (Int) × (Int) × Unit → World → Prop) (μ : (Int) × (Int) × Unit → World → Nat),
  I (65535, 0, ()) w ∧
  ∀ (J : Env) (s : (Int) × (Int) × Unit) (w' : World), I s w' →
    S43_L0 s.1 b_a b_l b_c ((b_l : Nat) : Int) s.2.1 w' R (fun s' w'' => I s' w'' ∧ μ s' w'' < μ s w')

theorem S43_eq (b_a : Option Addr) (b_l : Nat) (b_c : Nat) (w : World) (R : Value → World → Prop) : Eng.R Try.prog ⟨cal, S43_nx⟩ 37 S43_ann [] (Try.f43.body.getD .skip) (bodyQ Try.prog #[.tmp 2] R) (argE [(.slice b_a b_l b_c)]) w = S43 b_a b_l b_c w R := by kernel_rfl
/-- A call of 'carfax/check.Sum', by its condition. -/
theorem S43_calls {b_a : Option Addr} {b_l : Nat} {b_c : Nat} {w : World} {R : Value → World → Prop} (hS : S43 b_a b_l b_c w R) : Ret Try.prog 43 [(.slice b_a b_l b_c)] w R :=
  R_calls (C := ⟨cal, S43_nx⟩) cal_ok follows Try.func43 (c := Try.f43.body.getD .skip) (res := #[.tmp 2]) (n := 37) (by kernel_rfl) (by kernel_rfl) (by kernel_rfl) (by kernel_rfl) ((S43_eq b_a b_l b_c w R).mpr hS)

def S44_ann (p : List Nat) : Option LA :=
  none

def S44_nx (t : Nat) : Option (TypeId × TypeId) := none

def S44_k1 (b_a : Option Addr) (b_l : Nat) (b_c : Nat) (t28 : Bool) (w : World) (R : Value → World → Prop) : Prop :=
  cond t28 (
    R (.tuple ⟨[(.slice none 0 0), (.bool false)]⟩) w
  ) (
    R (.tuple ⟨[(.slice b_a b_l b_c), (.bool true)]⟩) w
  )

def S44_k0 (f_a : Option Addr) (f_l : Nat) (f_c : Nat) (w : World) (R : Value → World → Prop) : Prop :=
  0 ≤ ((IntKind.i64.wrap (((f_l : Nat) : Int) - 2)) : Int) ∧
  ((IntKind.i64.wrap (((f_l : Nat) : Int) - 2)) : Int) ≤ ((f_c : Nat) : Int) ∧
  0 ≤ (2 : Int) ∧
  (2 : Int) ≤ (((Int.toNat (IntKind.i64.wrap (((f_l : Nat) : Int) - 2))) : Nat) : Int) ∧
  Calls Try.prog 38 ⟨[(.slice (slAddr f_a f_c (Int.toNat 2) 1) ((Int.toNat (IntKind.i64.wrap (((f_l : Nat) : Int) - 2))) - (Int.toNat 2)) (f_c - (Int.toNat 2)))]⟩ w fun e w_ =>
    ∃ (t17_0_a : Option Addr) (t17_0_l : Nat) (t17_0_c : Nat) (t17_1 : Int),
    e = .returned (.tuple ⟨[(.slice t17_0_a t17_0_l t17_0_c), (.int .i64 t17_1)]⟩) ∧
    cond (!decide ((t17_1 : Int) = 0)) (
      S44_k1 (slAddr f_a f_c (Int.toNat 2) 1) ((Int.toNat (IntKind.i64.wrap (((f_l : Nat) : Int) - 2))) - (Int.toNat 2)) (f_c - (Int.toNat 2)) true w_ R
    ) (
      ∃ (t24 : ByteArray) (w__1 : World),
      (convert 30 9 (.slice t17_0_a t17_0_l t17_0_c)).run Try.prog w_ = .ok (.string t24) w__1 ∧
      ∃ (t26 : ByteArray) (w__2 : World),
      (convert 30 9 (.slice f_a f_l f_c)).run Try.prog w__1 = .ok (.string t26) w__2 ∧
      S44_k1 (slAddr f_a f_c (Int.toNat 2) 1) ((Int.toNat (IntKind.i64.wrap (((f_l : Nat) : Int) - 2))) - (Int.toNat 2)) (f_c - (Int.toNat 2)) (!decide ((t24 : ByteArray) = t26)) w__2 R
    )

def S44 (f_a : Option Addr) (f_l : Nat) (f_c : Nat) (w : World) (R : Value → World → Prop) : Prop :=
  cond (decide ((((f_l : Nat) : Int) : Int) < 4)) (
    R (.tuple ⟨[(.slice none 0 0), (.bool false)]⟩) w
  ) (
    S44_k0 f_a f_l f_c w R
  )

theorem S44_eq (f_a : Option Addr) (f_l : Nat) (f_c : Nat) (w : World) (R : Value → World → Prop) : Eng.R Try.prog ⟨cal, S44_nx⟩ 30 S44_ann [] (Try.f44.body.getD .skip) (bodyQ Try.prog #[.tmp 2, .tmp 3] R) (argE [(.slice f_a f_l f_c)]) w = S44 f_a f_l f_c w R := by kernel_rfl
/-- A call of 'carfax/carfaxref02.Open', by its condition. -/
theorem S44_calls {f_a : Option Addr} {f_l : Nat} {f_c : Nat} {w : World} {R : Value → World → Prop} (hS : S44 f_a f_l f_c w R) : Ret Try.prog 44 [(.slice f_a f_l f_c)] w R :=
  R_calls (C := ⟨cal, S44_nx⟩) cal_ok follows Try.func44 (c := Try.f44.body.getD .skip) (res := #[.tmp 2, .tmp 3]) (n := 30) (by kernel_rfl) (by kernel_rfl) (by kernel_rfl) (by kernel_rfl) ((S44_eq f_a f_l f_c w R).mpr hS)

def S45_ann (p : List Nat) : Option LA :=
  none

def S45_nx (t : Nat) : Option (TypeId × TypeId) := none

def S45 (n_ : Int) (w : World) (R : Value → World → Prop) : Prop :=
  Calls Try.prog 51 ⟨[(.int .u64 (IntKind.u64.wrap n_)), (.int .i64 16)]⟩ w fun e w_ =>
    ∃ (t5_a : Option Addr) (t5_l : Nat) (t5_c : Nat),
    e = .returned (.slice t5_a t5_l t5_c) ∧
    Calls Try.prog 50 ⟨[(.slice t5_a t5_l t5_c)]⟩ w_ fun e w__1 =>
      ∃ (t6_a : Option Addr) (t6_l : Nat) (t6_c : Nat),
      e = .returned (.slice t6_a t6_l t6_c) ∧
      R (.slice t6_a t6_l t6_c) w__1

theorem S45_eq (n_ : Int) (w : World) (R : Value → World → Prop) : Eng.R Try.prog ⟨cal, S45_nx⟩ 7 S45_ann [] (Try.f45.body.getD .skip) (bodyQ Try.prog #[.tmp 2] R) (argE [(.int .i64 n_)]) w = S45 n_ w R := by kernel_rfl
/-- A call of 'carfax/carfaxref02.two', by its condition. -/
theorem S45_calls {n_ : Int} {w : World} {R : Value → World → Prop} (hS : S45 n_ w R) : Ret Try.prog 45 [(.int .i64 n_)] w R :=
  R_calls (C := ⟨cal, S45_nx⟩) cal_ok follows Try.func45 (c := Try.f45.body.getD .skip) (res := #[.tmp 2]) (n := 7) (by kernel_rfl) (by kernel_rfl) (by kernel_rfl) (by kernel_rfl) ((S45_eq n_ w R).mpr hS)

def S46_ann (p : List Nat) : Option LA := match p with
  | [0, 1, 0, 1, 1] => some ⟨[0], [(3, .one (.int .u16)), (4, .one (.int .i64))]⟩
  | [0, 1, 1, 0, 0, 1, 0, 0, 1, 0, 1, 1] => some ⟨[0, 4], [(3, .one (.int .u16)), (5, .one (.int .i64))]⟩
  | _ => none

def S46_nx (t : Nat) : Option (TypeId × TypeId) := none

def S46_k3 (b_a : Option Addr) (b_l : Nat) (b_c : Nat) (r : Int) (i : Int) (k : Int) (w : World) (R : Value → World → Prop) (B1 : (Int) × (Int) × Unit → World → Prop) (B2 : (Int) × (Int) × Unit → World → Prop) : Prop :=
  (32768 : Int) ≠ 0 ∧
  cond (decide (((IntKind.u16.wrap (Int.tdiv r 32768)) : Int) = 1)) (
    B2 ((bitsI .xor .u16 (IntKind.u16.wrap (r * 2)) 4129), (IntKind.i64.wrap (k + 1)), ()) w
  ) (
    B2 ((IntKind.u16.wrap (r * 2)), (IntKind.i64.wrap (k + 1)), ()) w
  )

def S46_L2 (b_a : Option Addr) (b_l : Nat) (b_c : Nat) (r : Int) (i : Int) (k : Int) (w : World) (R : Value → World → Prop) (B1 : (Int) × (Int) × Unit → World → Prop) (B2 : (Int) × (Int) × Unit → World → Prop) : Prop :=
  cond (decide ((k : Int) < 8)) (
    S46_k3 b_a b_l b_c r i k w R B1 B2
  ) (
    B1 (r, (IntKind.i64.wrap (i + 1)), ()) w
  )

def S46_k1 (b_a : Option Addr) (b_l : Nat) (b_c : Nat) (r : Int) (i : Int) (w : World) (R : Value → World → Prop) (B1 : (Int) × (Int) × Unit → World → Prop) : Prop :=
  ∃ (t16 : Addr),
  b_a = some t16 ∧
  0 ≤ (i : Int) ∧
  (i : Int) < ((b_l : Nat) : Int) ∧
  ∃ (t17 : Int),
  w.cell? (t16.add (Int.toNat i * 1)) = some (.int .u8 t17) ∧
  ∃ (I : (Int) × (Int) × Unit → World → Prop) (μ : (Int) × (Int) × Unit → World → Nat),
  I ((bitsI .xor .u16 r (IntKind.u16.wrap ((IntKind.u16.wrap t17) * 256))), 0, ()) w ∧
  ∀ (J : Env) (s : (Int) × (Int) × Unit) (w' : World), I s w' →
    S46_L2 b_a b_l b_c s.1 i s.2.1 w' R B1 (fun s' w'' => I s' w'' ∧ μ s' w'' < μ s w')

def S46_L0 (b_a : Option Addr) (b_l : Nat) (b_c : Nat) (r : Int) (i : Int) (w : World) (R : Value → World → Prop) (B1 : (Int) × (Int) × Unit → World → Prop) : Prop :=
  cond (decide ((i : Int) < ((b_l : Nat) : Int))) (
    S46_k1 b_a b_l b_c r i w R B1
  ) (
    R (.int .u16 r) w
  )

def S46 (b_a : Option Addr) (b_l : Nat) (b_c : Nat) (w : World) (R : Value → World → Prop) : Prop :=
  ∃ (I : (Int) × (Int) × Unit → World → Prop) (μ : (Int) × (Int) × Unit → World → Nat),
  I (65535, 0, ()) w ∧
  ∀ (J : Env) (s : (Int) × (Int) × Unit) (w' : World), I s w' →
    S46_L0 b_a b_l b_c s.1 s.2.1 w' R (fun s' w'' => I s' w'' ∧ μ s' w'' < μ s w')

theorem S46_eq (b_a : Option Addr) (b_l : Nat) (b_c : Nat) (w : World) (R : Value → World → Prop) : Eng.R Try.prog ⟨cal, S46_nx⟩ 34 S46_ann [] (Try.f46.body.getD .skip) (bodyQ Try.prog #[.tmp 2] R) (argE [(.slice b_a b_l b_c)]) w = S46 b_a b_l b_c w R := by kernel_rfl
/-- A call of 'carfax/carfaxref02.Sum', by its condition. -/
theorem S46_calls {b_a : Option Addr} {b_l : Nat} {b_c : Nat} {w : World} {R : Value → World → Prop} (hS : S46 b_a b_l b_c w R) : Ret Try.prog 46 [(.slice b_a b_l b_c)] w R :=
  R_calls (C := ⟨cal, S46_nx⟩) cal_ok follows Try.func46 (c := Try.f46.body.getD .skip) (res := #[.tmp 2]) (n := 34) (by kernel_rfl) (by kernel_rfl) (by kernel_rfl) (by kernel_rfl) ((S46_eq b_a b_l b_c w R).mpr hS)

def S47_ann (p : List Nat) : Option LA :=
  none

def S47_nx (t : Nat) : Option (TypeId × TypeId) := none

def S47 (b_a : Option Addr) (b_l : Nat) (b_c : Nat) (w : World) (R : Value → World → Prop) : Prop :=
  ∃ (t4_a : Option Addr) (t4_l : Nat) (t4_c : Nat) (w_ : World),
  (Builtin.append_ #[30, 30] 30 ⟨[(.slice none 0 0), (.slice b_a b_l b_c)]⟩).run Try.prog w = .ok (.slice t4_a t4_l t4_c) w_ ∧
  R (.pointer (some ⟨w_.heap.size, 0, none⟩)) (w_.alloc (.cells ⟨[(.slice t4_a t4_l t4_c), (.int .i64 0), (.int .i64 0)]⟩ 89))

theorem S47_eq (b_a : Option Addr) (b_l : Nat) (b_c : Nat) (w : World) (R : Value → World → Prop) : Eng.R Try.prog ⟨cal, S47_nx⟩ 7 S47_ann [] (Try.f47.body.getD .skip) (bodyQ Try.prog #[.tmp 2] R) (argE [(.slice b_a b_l b_c)]) w = S47 b_a b_l b_c w R := by kernel_rfl
/-- A call of 'carfax/bits.NewReader', by its condition. -/
theorem S47_calls {b_a : Option Addr} {b_l : Nat} {b_c : Nat} {w : World} {R : Value → World → Prop} (hS : S47 b_a b_l b_c w R) : Ret Try.prog 47 [(.slice b_a b_l b_c)] w R :=
  R_calls (C := ⟨cal, S47_nx⟩) cal_ok follows Try.func47 (c := Try.f47.body.getD .skip) (res := #[.tmp 2]) (n := 7) (by kernel_rfl) (by kernel_rfl) (by kernel_rfl) (by kernel_rfl) ((S47_eq b_a b_l b_c w R).mpr hS)

def S48_ann (p : List Nat) : Option LA := match p with
  | [0, 1, 0, 1, 1, 1] => some ⟨[0, 34], [(5, .one (.int .u64)), (35, .one (.int .i64))]⟩
  | _ => none

def S48_nx (t : Nat) : Option (TypeId × TypeId) := none

def S48_k5 (r : Option Addr) (n_ : Int) (t34 : Int) (t35 : Int) (w : World) (R : Value → World → Prop) (B1 : (Int) × (Int) × Unit → World → Prop) : Prop :=
  ∃ (t44 : Addr),
  r = some t44 ∧
  ∃ (t46 : Int),
  w.cell? (t44.add 1) = some (.int .i64 t46) ∧
  ∃ (t48 : Addr),
  r = some t48 ∧
  (∃ u, w.cell? (t48.add 1) = some u) ∧
  w.frozen? (t48.add 1) = false ∧
  B1 (n_, (IntKind.i64.wrap (t35 + 1)), ()) (w.setCell (t48.add 1) (.int .i64 (IntKind.i64.wrap (t46 + 1))))

def S48_k4 (r : Option Addr) (n_ : Int) (t34 : Int) (t35 : Int) (w : World) (R : Value → World → Prop) (B1 : (Int) × (Int) × Unit → World → Prop) : Prop :=
  0 ≤ (1 : Int) ∧
  Calls Try.prog 53 ⟨[(.pointer r), (.int .i64 0)]⟩ w fun e w_ =>
    ∃ (t40 : Bool),
    e = .returned (.bool t40) ∧
    cond t40 (
      S48_k5 r (bitsI .or .u64 (IntKind.u64.wrap (n_ * 2 ^ (min (Int.toNat 1) (IntKind.u64.bits)))) 1) t34 t35 w_ R B1
    ) (
      S48_k5 r (IntKind.u64.wrap (n_ * 2 ^ (min (Int.toNat 1) (IntKind.u64.bits)))) t34 t35 w_ R B1
    )

def S48_L3 (r : Option Addr) (n_ : Int) (t34 : Int) (t35 : Int) (w : World) (R : Value → World → Prop) (B1 : (Int) × (Int) × Unit → World → Prop) : Prop :=
  cond (decide ((t35 : Int) < t34)) (
    S48_k4 r n_ t34 t35 w R B1
  ) (
    R (.int .u64 n_) w
  )

def S48_k2 (r : Option Addr) (many : Int) (w : World) (R : Value → World → Prop) : Prop :=
  ∃ (I : (Int) × (Int) × Unit → World → Prop) (μ : (Int) × (Int) × Unit → World → Nat),
  I (0, 0, ()) w ∧
  ∀ (J : Env) (s : (Int) × (Int) × Unit) (w' : World), I s w' →
    S48_L3 r s.1 many s.2.1 w' R (fun s' w'' => I s' w'' ∧ μ s' w'' < μ s w')

def S48_k1 (r : Option Addr) (many : Int) (t16 : Bool) (w : World) (R : Value → World → Prop) : Prop :=
  cond t16 (
    ∃ (t24 : Addr),
    r = some t24 ∧
    (∃ u, w.cell? (t24.add 2) = some u) ∧
    w.frozen? (t24.add 2) = false ∧
    R (.int .u64 0) (w.setCell (t24.add 2) (.int .i64 1))
  ) (
    Calls Try.prog 52 ⟨[(.pointer r)]⟩ w fun e w_ =>
      ∃ (t29 : Int),
      e = .returned (.int .i64 t29) ∧
      cond (decide ((t29 : Int) < many)) (
        ∃ (t32 : Addr),
        r = some t32 ∧
        (∃ u, w_.cell? (t32.add 2) = some u) ∧
        w_.frozen? (t32.add 2) = false ∧
        R (.int .u64 0) (w_.setCell (t32.add 2) (.int .i64 10))
      ) (
        S48_k2 r many w_ R
      )
  )

def S48_k0 (r : Option Addr) (many : Int) (t6 : Bool) (w : World) (R : Value → World → Prop) : Prop :=
  cond t6 (
    R (.int .u64 0) w
  ) (
    cond (decide ((many : Int) < 0)) (
      S48_k1 r many true w R
    ) (
      S48_k1 r many (decide ((64 : Int) < many)) w R
    )
  )

def S48 (r : Option Addr) (many : Int) (w : World) (R : Value → World → Prop) : Prop :=
  cond (Option.isNone r) (
    S48_k0 r many true w R
  ) (
    ∃ (t11 : Addr),
    r = some t11 ∧
    ∃ (t13 : Int),
    w.cell? (t11.add 2) = some (.int .i64 t13) ∧
    S48_k0 r many (!decide ((t13 : Int) = 0)) w R
  )

theorem S48_eq (r : Option Addr) (many : Int) (w : World) (R : Value → World → Prop) : Eng.R Try.prog ⟨cal, S48_nx⟩ 52 S48_ann [] (Try.f48.body.getD .skip) (bodyQ Try.prog #[.tmp 4] R) (argE [(.pointer r), (.int .i64 many)]) w = S48 r many w R := by kernel_rfl
/-- A call of '(*carfax/bits.Reader).Get', by its condition. -/
theorem S48_calls {r : Option Addr} {many : Int} {w : World} {R : Value → World → Prop} (hS : S48 r many w R) : Ret Try.prog 48 [(.pointer r), (.int .i64 many)] w R :=
  R_calls (C := ⟨cal, S48_nx⟩) cal_ok follows Try.func48 (c := Try.f48.body.getD .skip) (res := #[.tmp 4]) (n := 52) (by kernel_rfl) (by kernel_rfl) (by kernel_rfl) (by kernel_rfl) ((S48_eq r many w R).mpr hS)

def S49_ann (p : List Nat) : Option LA :=
  none

def S49_nx (t : Nat) : Option (TypeId × TypeId) := none

def S49_k1 (w_ : Option Addr) (w : World) (R : Value → World → Prop) : Prop :=
  ∃ (t40 : Addr),
  w_ = some t40 ∧
  ∃ (t42 : Int),
  w.cell? (t40.add 1) = some (.int .i64 t42) ∧
  ∃ (t44 : Addr),
  w_ = some t44 ∧
  (∃ u, w.cell? (t44.add 1) = some u) ∧
  w.frozen? (t44.add 1) = false ∧
  R (.tuple ⟨[]⟩) (w.setCell (t44.add 1) (.int .i64 (IntKind.i64.wrap (t42 + 1))))

def S49_k0 (w_ : Option Addr) (one : Bool) (w : World) (R : Value → World → Prop) : Prop :=
  cond one (
    ∃ (t21 : Addr),
    w_ = some t21 ∧
    ∃ (t25 : Addr),
    w_ = some t25 ∧
    ∃ (t32 : Addr),
    w_ = some t32 ∧
    (
      ∃ (t23_a : Option Addr) (t23_l : Nat) (t23_c : Nat),
      w.drew.cell? t21 = some (.slice t23_a t23_l t23_c) ∧
      (
        ∃ (t27 : Int),
        w.drew.cell? (t25.add 1) = some (.int .i64 t27) ∧
        (8 : Int) ≠ 0 ∧
        ∃ (t29 : Addr),
        t23_a = some t29 ∧
        0 ≤ ((IntKind.i64.wrap (Int.tdiv t27 8)) : Int) ∧
        ((IntKind.i64.wrap (Int.tdiv t27 8)) : Int) < ((t23_l : Nat) : Int) ∧
        ∃ (t34 : Int),
        w.drew.cell? (t32.add 1) = some (.int .i64 t34) ∧
        (8 : Int) ≠ 0 ∧
        0 ≤ ((Int.tmod t34 8) : Int) ∧
        ∃ (t30 : Int),
        w.drew.cell? (t29.add (Int.toNat (IntKind.i64.wrap (Int.tdiv t27 8)) * 1)) = some (.int .u8 t30) ∧
        ∃ (t38 : Addr),
        t23_a = some t38 ∧
        0 ≤ ((IntKind.i64.wrap (Int.tdiv t27 8)) : Int) ∧
        ((IntKind.i64.wrap (Int.tdiv t27 8)) : Int) < ((t23_l : Nat) : Int) ∧
        (∃ u, w.drew.cell? (t38.add (Int.toNat (IntKind.i64.wrap (Int.tdiv t27 8)) * 1)) = some u) ∧
        w.drew.frozen? (t38.add (Int.toNat (IntKind.i64.wrap (Int.tdiv t27 8)) * 1)) = false ∧
        S49_k1 w_ (w.drew.setCell (t38.add (Int.toNat (IntKind.i64.wrap (Int.tdiv t27 8)) * 1)) (.int .u8 (bitsI .or .u8 t30 (Int.fdiv 128 (2 ^ (min (Int.toNat (Int.tmod t34 8)) (IntKind.u8.bits))))))) R
      ) ∧
      (
        ∃ (t34_1 : Int),
        w.drew.cell? (t32.add 1) = some (.int .i64 t34_1) ∧
        (8 : Int) ≠ 0 ∧
        0 ≤ ((Int.tmod t34_1 8) : Int) ∧
        ∃ (t27_1 : Int),
        w.drew.cell? (t25.add 1) = some (.int .i64 t27_1) ∧
        (8 : Int) ≠ 0 ∧
        ∃ (t29_1 : Addr),
        t23_a = some t29_1 ∧
        0 ≤ ((IntKind.i64.wrap (Int.tdiv t27_1 8)) : Int) ∧
        ((IntKind.i64.wrap (Int.tdiv t27_1 8)) : Int) < ((t23_l : Nat) : Int) ∧
        ∃ (t30_1 : Int),
        w.drew.cell? (t29_1.add (Int.toNat (IntKind.i64.wrap (Int.tdiv t27_1 8)) * 1)) = some (.int .u8 t30_1) ∧
        ∃ (t38_1 : Addr),
        t23_a = some t38_1 ∧
        0 ≤ ((IntKind.i64.wrap (Int.tdiv t27_1 8)) : Int) ∧
        ((IntKind.i64.wrap (Int.tdiv t27_1 8)) : Int) < ((t23_l : Nat) : Int) ∧
        (∃ u, w.drew.cell? (t38_1.add (Int.toNat (IntKind.i64.wrap (Int.tdiv t27_1 8)) * 1)) = some u) ∧
        w.drew.frozen? (t38_1.add (Int.toNat (IntKind.i64.wrap (Int.tdiv t27_1 8)) * 1)) = false ∧
        S49_k1 w_ (w.drew.setCell (t38_1.add (Int.toNat (IntKind.i64.wrap (Int.tdiv t27_1 8)) * 1)) (.int .u8 (bitsI .or .u8 t30_1 (Int.fdiv 128 (2 ^ (min (Int.toNat (Int.tmod t34_1 8)) (IntKind.u8.bits))))))) R
      )
    ) ∧
    (
      ∃ (t27_2 : Int),
      w.drew.cell? (t25.add 1) = some (.int .i64 t27_2) ∧
      (8 : Int) ≠ 0 ∧
      ∃ (t34_2 : Int),
      w.drew.cell? (t32.add 1) = some (.int .i64 t34_2) ∧
      (8 : Int) ≠ 0 ∧
      0 ≤ ((Int.tmod t34_2 8) : Int) ∧
      ∃ (t23_a_1 : Option Addr) (t23_l_1 : Nat) (t23_c_1 : Nat),
      w.drew.cell? t21 = some (.slice t23_a_1 t23_l_1 t23_c_1) ∧
      ∃ (t29_2 : Addr),
      t23_a_1 = some t29_2 ∧
      0 ≤ ((IntKind.i64.wrap (Int.tdiv t27_2 8)) : Int) ∧
      ((IntKind.i64.wrap (Int.tdiv t27_2 8)) : Int) < ((t23_l_1 : Nat) : Int) ∧
      ∃ (t30_2 : Int),
      w.drew.cell? (t29_2.add (Int.toNat (IntKind.i64.wrap (Int.tdiv t27_2 8)) * 1)) = some (.int .u8 t30_2) ∧
      ∃ (t38_2 : Addr),
      t23_a_1 = some t38_2 ∧
      0 ≤ ((IntKind.i64.wrap (Int.tdiv t27_2 8)) : Int) ∧
      ((IntKind.i64.wrap (Int.tdiv t27_2 8)) : Int) < ((t23_l_1 : Nat) : Int) ∧
      (∃ u, w.drew.cell? (t38_2.add (Int.toNat (IntKind.i64.wrap (Int.tdiv t27_2 8)) * 1)) = some u) ∧
      w.drew.frozen? (t38_2.add (Int.toNat (IntKind.i64.wrap (Int.tdiv t27_2 8)) * 1)) = false ∧
      S49_k1 w_ (w.drew.setCell (t38_2.add (Int.toNat (IntKind.i64.wrap (Int.tdiv t27_2 8)) * 1)) (.int .u8 (bitsI .or .u8 t30_2 (Int.fdiv 128 (2 ^ (min (Int.toNat (Int.tmod t34_2 8)) (IntKind.u8.bits))))))) R
    ) ∧
    (
      ∃ (t34_3 : Int),
      w.drew.cell? (t32.add 1) = some (.int .i64 t34_3) ∧
      (8 : Int) ≠ 0 ∧
      0 ≤ ((Int.tmod t34_3 8) : Int) ∧
      ∃ (t27_3 : Int),
      w.drew.cell? (t25.add 1) = some (.int .i64 t27_3) ∧
      (8 : Int) ≠ 0 ∧
      ∃ (t23_a_2 : Option Addr) (t23_l_2 : Nat) (t23_c_2 : Nat),
      w.drew.cell? t21 = some (.slice t23_a_2 t23_l_2 t23_c_2) ∧
      ∃ (t29_3 : Addr),
      t23_a_2 = some t29_3 ∧
      0 ≤ ((IntKind.i64.wrap (Int.tdiv t27_3 8)) : Int) ∧
      ((IntKind.i64.wrap (Int.tdiv t27_3 8)) : Int) < ((t23_l_2 : Nat) : Int) ∧
      ∃ (t30_3 : Int),
      w.drew.cell? (t29_3.add (Int.toNat (IntKind.i64.wrap (Int.tdiv t27_3 8)) * 1)) = some (.int .u8 t30_3) ∧
      ∃ (t38_3 : Addr),
      t23_a_2 = some t38_3 ∧
      0 ≤ ((IntKind.i64.wrap (Int.tdiv t27_3 8)) : Int) ∧
      ((IntKind.i64.wrap (Int.tdiv t27_3 8)) : Int) < ((t23_l_2 : Nat) : Int) ∧
      (∃ u, w.drew.cell? (t38_3.add (Int.toNat (IntKind.i64.wrap (Int.tdiv t27_3 8)) * 1)) = some u) ∧
      w.drew.frozen? (t38_3.add (Int.toNat (IntKind.i64.wrap (Int.tdiv t27_3 8)) * 1)) = false ∧
      S49_k1 w_ (w.drew.setCell (t38_3.add (Int.toNat (IntKind.i64.wrap (Int.tdiv t27_3 8)) * 1)) (.int .u8 (bitsI .or .u8 t30_3 (Int.fdiv 128 (2 ^ (min (Int.toNat (Int.tmod t34_3 8)) (IntKind.u8.bits))))))) R
    )
  ) (
    S49_k1 w_ w R
  )

def S49 (w_ : Option Addr) (one : Bool) (w : World) (R : Value → World → Prop) : Prop :=
  ∃ (t5 : Addr),
  w_ = some t5 ∧
  ∃ (t7 : Int),
  w.cell? (t5.add 1) = some (.int .i64 t7) ∧
  (8 : Int) ≠ 0 ∧
  cond (decide (((Int.tmod t7 8) : Int) = 0)) (
    ∃ (t12 : Addr),
    w_ = some t12 ∧
    ∃ (t14_a : Option Addr) (t14_l : Nat) (t14_c : Nat),
    w.cell? t12 = some (.slice t14_a t14_l t14_c) ∧
    ∃ (t16_a : Option Addr) (t16_l : Nat) (t16_c : Nat) (w__1 : World),
    (Builtin.append_ #[30, 30] 30 ⟨[(.slice t14_a t14_l t14_c), (.slice (some ⟨w.heap.size, 0, none⟩) 1 1)]⟩).run Try.prog (w.alloc (.cells ⟨[(.int .u8 0)]⟩ 5)) = .ok (.slice t16_a t16_l t16_c) w__1 ∧
    ∃ (t17 : Addr),
    w_ = some t17 ∧
    (∃ u, w__1.cell? t17 = some u) ∧
    w__1.frozen? t17 = false ∧
    S49_k0 w_ one (w__1.setCell t17 (.slice t16_a t16_l t16_c)) R
  ) (
    S49_k0 w_ one w R
  )

theorem S49_eq (w_ : Option Addr) (one : Bool) (w : World) (R : Value → World → Prop) : Eng.R Try.prog ⟨cal, S49_nx⟩ 46 S49_ann [] (Try.f49.body.getD .skip) (bodyQ Try.prog #[] R) (argE [(.pointer w_), (.bool one)]) w = S49 w_ one w R := by kernel_rfl
/-- A call of '(*carfax/bits.Writer).bit', by its condition. -/
theorem S49_calls {w_ : Option Addr} {one : Bool} {w : World} {R : Value → World → Prop} (hS : S49 w_ one w R) : Ret Try.prog 49 [(.pointer w_), (.bool one)] w R :=
  R_calls (C := ⟨cal, S49_nx⟩) cal_ok follows Try.func49 (c := Try.f49.body.getD .skip) (res := #[]) (n := 46) (by kernel_rfl) (by kernel_rfl) (by kernel_rfl) (by kernel_rfl) ((S49_eq w_ one w R).mpr hS)

def S50_ann (p : List Nat) : Option LA := match p with
  | [0, 1, 0, 1, 1] => some ⟨[0], [(3, .one .slice), (4, .one (.int .i64))]⟩
  | [0, 1, 0, 1, 0, 1, 1, 0, 0, 1, 0, 0, 1, 0, 1, 1] => some ⟨[0, 3, 4], [(5, .one (.int .u8)), (6, .one (.int .i64))]⟩
  | _ => none

def S50_nx (t : Nat) : Option (TypeId × TypeId) := none

def S50_k4 (l_a : Option Addr) (l_l : Nat) (l_c : Nat) (b_a : Option Addr) (b_l : Nat) (b_c : Nat) (i : Int) (p : Int) (k : Int) (w : World) (R : Value → World → Prop) (B1 : (Option Addr × Nat × Nat) × (Int) × Unit → World → Prop) (B2 : (Int) × (Int) × Unit → World → Prop) : Prop :=
  (2 : Int) ≠ 0 ∧
  B2 ((IntKind.u8.wrap (Int.tdiv p 2)), (IntKind.i64.wrap (k + 1)), ()) w

def S50_k5 (l_a : Option Addr) (l_l : Nat) (l_c : Nat) (b_a : Option Addr) (b_l : Nat) (b_c : Nat) (i : Int) (p : Int) (w : World) (R : Value → World → Prop) (B1 : (Option Addr × Nat × Nat) × (Int) × Unit → World → Prop) : Prop :=
  (8 : Int) ≠ 0 ∧
  (8 : Int) ≠ 0 ∧
  ∃ (t37 : Addr),
  b_a = some t37 ∧
  0 ≤ ((IntKind.i64.wrap (Int.tdiv i 8)) : Int) ∧
  ((IntKind.i64.wrap (Int.tdiv i 8)) : Int) < ((b_l : Nat) : Int) ∧
  ∃ (t38 : Int),
  w.cell? (t37.add (Int.toNat (IntKind.i64.wrap (Int.tdiv i 8)) * 1)) = some (.int .u8 t38) ∧
  ∃ (t41 : Addr),
  b_a = some t41 ∧
  0 ≤ ((IntKind.i64.wrap (Int.tdiv i 8)) : Int) ∧
  ((IntKind.i64.wrap (Int.tdiv i 8)) : Int) < ((b_l : Nat) : Int) ∧
  (∃ u, w.cell? (t41.add (Int.toNat (IntKind.i64.wrap (Int.tdiv i 8)) * 1)) = some u) ∧
  w.frozen? (t41.add (Int.toNat (IntKind.i64.wrap (Int.tdiv i 8)) * 1)) = false ∧
  B1 ((b_a, b_l, b_c), (IntKind.i64.wrap (i + 1)), ()) (w.setCell (t41.add (Int.toNat (IntKind.i64.wrap (Int.tdiv i 8)) * 1)) (.int .u8 (IntKind.u8.wrap (t38 + p))))

def S50_L3 (l_a : Option Addr) (l_l : Nat) (l_c : Nat) (b_a : Option Addr) (b_l : Nat) (b_c : Nat) (i : Int) (p : Int) (k : Int) (w : World) (R : Value → World → Prop) (B1 : (Option Addr × Nat × Nat) × (Int) × Unit → World → Prop) (B2 : (Int) × (Int) × Unit → World → Prop) : Prop :=
  (8 : Int) ≠ 0 ∧
  cond (decide ((k : Int) < (Int.tmod i 8))) (
    S50_k4 l_a l_l l_c b_a b_l b_c i p k w R B1 B2
  ) (
    S50_k5 l_a l_l l_c b_a b_l b_c i p w R B1
  )

def S50_k2 (l_a : Option Addr) (l_l : Nat) (l_c : Nat) (b_a : Option Addr) (b_l : Nat) (b_c : Nat) (i : Int) (w : World) (R : Value → World → Prop) (B1 : (Option Addr × Nat × Nat) × (Int) × Unit → World → Prop) : Prop :=
  ∃ (t21 : Addr),
  l_a = some t21 ∧
  0 ≤ (i : Int) ∧
  (i : Int) < ((l_l : Nat) : Int) ∧
  ∃ (t22 : Bool),
  w.cell? (t21.add (Int.toNat i * 1)) = some (.bool t22) ∧
  cond t22 (
    ∃ (I : (Int) × (Int) × Unit → World → Prop) (μ : (Int) × (Int) × Unit → World → Nat),
    I (128, 0, ()) w ∧
    ∀ (J : Env) (s : (Int) × (Int) × Unit) (w' : World), I s w' →
      S50_L3 l_a l_l l_c b_a b_l b_c i s.1 s.2.1 w' R B1 (fun s' w'' => I s' w'' ∧ μ s' w'' < μ s w')
  ) (
    B1 ((b_a, b_l, b_c), (IntKind.i64.wrap (i + 1)), ()) w
  )

def S50_k1 (l_a : Option Addr) (l_l : Nat) (l_c : Nat) (b_a : Option Addr) (b_l : Nat) (b_c : Nat) (i : Int) (w : World) (R : Value → World → Prop) (B1 : (Option Addr × Nat × Nat) × (Int) × Unit → World → Prop) : Prop :=
  (8 : Int) ≠ 0 ∧
  cond (decide (((Int.tmod i 8) : Int) = 0)) (
    ∃ (t18_a : Option Addr) (t18_l : Nat) (t18_c : Nat) (w_ : World),
    (Builtin.append_ #[30, 30] 30 ⟨[(.slice b_a b_l b_c), (.slice (some ⟨w.heap.size, 0, none⟩) 1 1)]⟩).run Try.prog (w.alloc (.cells ⟨[(.int .u8 0)]⟩ 5)) = .ok (.slice t18_a t18_l t18_c) w_ ∧
    S50_k2 l_a l_l l_c t18_a t18_l t18_c i w_ R B1
  ) (
    S50_k2 l_a l_l l_c b_a b_l b_c i w R B1
  )

def S50_L0 (l_a : Option Addr) (l_l : Nat) (l_c : Nat) (b_a : Option Addr) (b_l : Nat) (b_c : Nat) (i : Int) (w : World) (R : Value → World → Prop) (B1 : (Option Addr × Nat × Nat) × (Int) × Unit → World → Prop) : Prop :=
  cond (decide ((i : Int) < ((l_l : Nat) : Int))) (
    S50_k1 l_a l_l l_c b_a b_l b_c i w R B1
  ) (
    R (.slice b_a b_l b_c) w
  )

def S50 (l_a : Option Addr) (l_l : Nat) (l_c : Nat) (w : World) (R : Value → World → Prop) : Prop :=
  ∃ (I : (Option Addr × Nat × Nat) × (Int) × Unit → World → Prop) (μ : (Option Addr × Nat × Nat) × (Int) × Unit → World → Nat),
  I ((none, 0, 0), 0, ()) w ∧
  ∀ (J : Env) (s : (Option Addr × Nat × Nat) × (Int) × Unit) (w' : World), I s w' →
    S50_L0 l_a l_l l_c s.1.1 s.1.2.1 s.1.2.2 s.2.1 w' R (fun s' w'' => I s' w'' ∧ μ s' w'' < μ s w')

theorem S50_eq (l_a : Option Addr) (l_l : Nat) (l_c : Nat) (w : World) (R : Value → World → Prop) : Eng.R Try.prog ⟨cal, S50_nx⟩ 43 S50_ann [] (Try.f50.body.getD .skip) (bodyQ Try.prog #[.tmp 2] R) (argE [(.slice l_a l_l l_c)]) w = S50 l_a l_l l_c w R := by kernel_rfl
/-- A call of 'carfax/carfaxref01.Bytes', by its condition. -/
theorem S50_calls {l_a : Option Addr} {l_l : Nat} {l_c : Nat} {w : World} {R : Value → World → Prop} (hS : S50 l_a l_l l_c w R) : Ret Try.prog 50 [(.slice l_a l_l l_c)] w R :=
  R_calls (C := ⟨cal, S50_nx⟩) cal_ok follows Try.func50 (c := Try.f50.body.getD .skip) (res := #[.tmp 2]) (n := 43) (by kernel_rfl) (by kernel_rfl) (by kernel_rfl) (by kernel_rfl) ((S50_eq l_a l_l l_c w R).mpr hS)

def S51_ann (p : List Nat) : Option LA := match p with
  | [0, 1, 0, 1, 1] => some ⟨[1], [(0, .one (.int .u64)), (5, .one .slice), (6, .one (.int .i64))]⟩
  | _ => none

def S51_nx (t : Nat) : Option (TypeId × TypeId) := none

def S51_k1 (n_ : Int) (many : Int) (l_a : Option Addr) (l_l : Nat) (l_c : Nat) (i : Int) (w : World) (R : Value → World → Prop) (B1 : (Int) × (Option Addr × Nat × Nat) × (Int) × Unit → World → Prop) : Prop :=
  (2 : Int) ≠ 0 ∧
  ∃ (t17_a : Option Addr) (t17_l : Nat) (t17_c : Nat) (w_ : World),
  (Builtin.append_ #[86, 86] 86 ⟨[(.slice (some ⟨w.heap.size, 0, none⟩) 1 1), (.slice l_a l_l l_c)]⟩).run Try.prog (w.alloc (.cells ⟨[(.bool (decide (((Int.tmod n_ 2) : Int) = 1)))]⟩ 4)) = .ok (.slice t17_a t17_l t17_c) w_ ∧
  (2 : Int) ≠ 0 ∧
  B1 ((IntKind.u64.wrap (Int.tdiv n_ 2)), (t17_a, t17_l, t17_c), (IntKind.i64.wrap (i + 1)), ()) w_

def S51_L0 (n_ : Int) (many : Int) (l_a : Option Addr) (l_l : Nat) (l_c : Nat) (i : Int) (w : World) (R : Value → World → Prop) (B1 : (Int) × (Option Addr × Nat × Nat) × (Int) × Unit → World → Prop) : Prop :=
  cond (decide ((i : Int) < many)) (
    S51_k1 n_ many l_a l_l l_c i w R B1
  ) (
    R (.slice l_a l_l l_c) w
  )

def S51 (n_ : Int) (many : Int) (w : World) (R : Value → World → Prop) : Prop :=
  ∃ (I : (Int) × (Option Addr × Nat × Nat) × (Int) × Unit → World → Prop) (μ : (Int) × (Option Addr × Nat × Nat) × (Int) × Unit → World → Nat),
  I (n_, (none, 0, 0), 0, ()) w ∧
  ∀ (J : Env) (s : (Int) × (Option Addr × Nat × Nat) × (Int) × Unit) (w' : World), I s w' →
    S51_L0 s.1 many s.2.1.1 s.2.1.2.1 s.2.1.2.2 s.2.2.1 w' R (fun s' w'' => I s' w'' ∧ μ s' w'' < μ s w')

theorem S51_eq (n_ : Int) (many : Int) (w : World) (R : Value → World → Prop) : Eng.R Try.prog ⟨cal, S51_nx⟩ 21 S51_ann [] (Try.f51.body.getD .skip) (bodyQ Try.prog #[.tmp 4] R) (argE [(.int .u64 n_), (.int .i64 many)]) w = S51 n_ many w R := by kernel_rfl
/-- A call of 'carfax/carfaxref01.Bits', by its condition. -/
theorem S51_calls {n_ : Int} {many : Int} {w : World} {R : Value → World → Prop} (hS : S51 n_ many w R) : Ret Try.prog 51 [(.int .u64 n_), (.int .i64 many)] w R :=
  R_calls (C := ⟨cal, S51_nx⟩) cal_ok follows Try.func51 (c := Try.f51.body.getD .skip) (res := #[.tmp 4]) (n := 21) (by kernel_rfl) (by kernel_rfl) (by kernel_rfl) (by kernel_rfl) ((S51_eq n_ many w R).mpr hS)

def S52_ann (p : List Nat) : Option LA :=
  none

def S52_nx (t : Nat) : Option (TypeId × TypeId) := none

def S52_k0 (r : Option Addr) (w : World) (R : Value → World → Prop) : Prop :=
  ∃ (t6 : Addr),
  r = some t6 ∧
  ∃ (t12 : Addr),
  r = some t12 ∧
  ∃ (t8_a : Option Addr) (t8_l : Nat) (t8_c : Nat),
  w.drew.cell? t6 = some (.slice t8_a t8_l t8_c) ∧
  ∃ (t14 : Int),
  w.drew.cell? (t12.add 1) = some (.int .i64 t14) ∧
  R (.int .i64 (IntKind.i64.wrap ((IntKind.i64.wrap (8 * ((t8_l : Nat) : Int))) - t14))) w.drew

def S52 (r : Option Addr) (w : World) (R : Value → World → Prop) : Prop :=
  cond (Option.isNone r) (
    R (.int .i64 0) w
  ) (
    S52_k0 r w R
  )

theorem S52_eq (r : Option Addr) (w : World) (R : Value → World → Prop) : Eng.R Try.prog ⟨cal, S52_nx⟩ 16 S52_ann [] (Try.f52.body.getD .skip) (bodyQ Try.prog #[.tmp 2] R) (argE [(.pointer r)]) w = S52 r w R := by kernel_rfl
/-- A call of '(*carfax/bits.Reader).Left', by its condition. -/
theorem S52_calls {r : Option Addr} {w : World} {R : Value → World → Prop} (hS : S52 r w R) : Ret Try.prog 52 [(.pointer r)] w R :=
  R_calls (C := ⟨cal, S52_nx⟩) cal_ok follows Try.func52 (c := Try.f52.body.getD .skip) (res := #[.tmp 2]) (n := 16) (by kernel_rfl) (by kernel_rfl) (by kernel_rfl) (by kernel_rfl) ((S52_eq r w R).mpr hS)

def S53_ann (p : List Nat) : Option LA :=
  none

def S53_nx (t : Nat) : Option (TypeId × TypeId) := none

def S53 (r : Option Addr) (ahead : Int) (w : World) (R : Value → World → Prop) : Prop :=
  ∃ (t7 : Addr),
  r = some t7 ∧
  ∃ (t9 : Int),
  w.cell? (t7.add 1) = some (.int .i64 t9) ∧
  ∃ (t13 : Addr),
  r = some t13 ∧
  ∃ (t15_a : Option Addr) (t15_l : Nat) (t15_c : Nat),
  w.cell? t13 = some (.slice t15_a t15_l t15_c) ∧
  (8 : Int) ≠ 0 ∧
  ∃ (t18 : Addr),
  t15_a = some t18 ∧
  0 ≤ ((IntKind.i64.wrap (Int.tdiv (IntKind.i64.wrap (t9 + ahead)) 8)) : Int) ∧
  ((IntKind.i64.wrap (Int.tdiv (IntKind.i64.wrap (t9 + ahead)) 8)) : Int) < ((t15_l : Nat) : Int) ∧
  ∃ (t19 : Int),
  w.cell? (t18.add (Int.toNat (IntKind.i64.wrap (Int.tdiv (IntKind.i64.wrap (t9 + ahead)) 8)) * 1)) = some (.int .u8 t19) ∧
  (8 : Int) ≠ 0 ∧
  0 ≤ ((IntKind.i64.wrap (7 - (Int.tmod (IntKind.i64.wrap (t9 + ahead)) 8))) : Int) ∧
  R (.bool (decide (((bitsI .and .u8 (Int.fdiv t19 (2 ^ (min (Int.toNat (IntKind.i64.wrap (7 - (Int.tmod (IntKind.i64.wrap (t9 + ahead)) 8)))) (IntKind.u8.bits)))) 1) : Int) = 1))) w

theorem S53_eq (r : Option Addr) (ahead : Int) (w : World) (R : Value → World → Prop) : Eng.R Try.prog ⟨cal, S53_nx⟩ 26 S53_ann [] (Try.f53.body.getD .skip) (bodyQ Try.prog #[.tmp 4] R) (argE [(.pointer r), (.int .i64 ahead)]) w = S53 r ahead w R := by kernel_rfl
/-- A call of '(*carfax/bits.Reader).one', by its condition. -/
theorem S53_calls {r : Option Addr} {ahead : Int} {w : World} {R : Value → World → Prop} (hS : S53 r ahead w R) : Ret Try.prog 53 [(.pointer r), (.int .i64 ahead)] w R :=
  R_calls (C := ⟨cal, S53_nx⟩) cal_ok follows Try.func53 (c := Try.f53.body.getD .skip) (res := #[.tmp 4]) (n := 26) (by kernel_rfl) (by kernel_rfl) (by kernel_rfl) (by kernel_rfl) ((S53_eq r ahead w R).mpr hS)

end Go.Proofs
