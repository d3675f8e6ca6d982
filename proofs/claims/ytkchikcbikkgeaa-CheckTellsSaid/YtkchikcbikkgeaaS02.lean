import Derived.Test.YtkchikcbikkgeaaProg
import Derived.Test.YtkchikcbikkgeaaEng8
set_option linter.unusedVariables false
set_option maxRecDepth 100000
namespace Go.Proofs
open Go Go.Eng
def cal (f : FuncId) : Bool := Nat.ble 3 f && Nat.blt f 34
theorem cal_all : (List.range 34).all (fun f => !cal f || callable Try.prog f) = true := by kernel_rfl
theorem cal_ok (f : FuncId) (h : cal f = true) : callable Try.prog f = true := by
  have hb := h
  simp only [cal, Bool.and_eq_true, Nat.blt_eq] at hb
  have := List.all_eq_true.1 cal_all f (List.mem_range.2 hb.2)
  rw [h] at this
  simpa using this
theorem follows : Try.prog.follows .mixedOrders = true := by kernel_rfl

def S3_ann (p : List Nat) : Option LA :=
  none

def S3_nx (t : Nat) : Option (TypeId × TypeId) := none

def S3 (b_a : Option Addr) (b_l : Nat) (b_c : Nat) (w : World) (R : Value → World → Prop) : Prop :=
  Calls Try.prog 11 ⟨[]⟩ w fun e w_ =>
    ∃ (t3 : Bool),
    e = .returned (.bool t3) ∧
    cond t3 (
      Calls Try.prog 13 ⟨[(.slice b_a b_l b_c)]⟩ w_ fun e w__1 =>
        ∃ (t6_a : Option Addr) (t6_l : Nat) (t6_c : Nat),
        e = .returned (.slice t6_a t6_l t6_c) ∧
        Calls Try.prog 12 ⟨[(.slice t6_a t6_l t6_c)]⟩ w__1 fun e w__2 =>
          ∃ (t7 : Int),
          e = .returned (.int .u16 t7) ∧
          Calls Try.prog 13 ⟨[(.slice b_a b_l b_c)]⟩ w__2 fun e w__3 =>
            ∃ (t9_a : Option Addr) (t9_l : Nat) (t9_c : Nat),
            e = .returned (.slice t9_a t9_l t9_c) ∧
            Calls Try.prog 14 ⟨[(.slice t9_a t9_l t9_c)]⟩ w__3 fun e w__4 =>
              ∃ (t10 : Int),
              e = .returned (.int .u16 t10) ∧
              R (.bool (decide ((t7 : Int) = t10))) w__4
    ) (
      R (.bool false) w_
    )

theorem S3_eq (b_a : Option Addr) (b_l : Nat) (b_c : Nat) (w : World) (R : Value → World → Prop) : Eng.R Try.prog ⟨cal, S3_nx⟩ 13 S3_ann [] (Try.f3.body.getD .skip) (bodyQ Try.prog #[.tmp 2] R) (argE [(.slice b_a b_l b_c)]) w = S3 b_a b_l b_c w R := by kernel_rfl
/-- A call of 'carfax/carfaxlaw02.CheckSums', by its condition. -/
theorem S3_calls {b_a : Option Addr} {b_l : Nat} {b_c : Nat} {w : World} {R : Value → World → Prop} (hS : S3 b_a b_l b_c w R) : Ret Try.prog 3 [(.slice b_a b_l b_c)] w R :=
  R_calls (C := ⟨cal, S3_nx⟩) cal_ok follows Try.func3 (c := Try.f3.body.getD .skip) (res := #[.tmp 2]) (n := 13) (by kernel_rfl) (by kernel_rfl) (by kernel_rfl) (by kernel_rfl) ((S3_eq b_a b_l b_c w R).mpr hS)

def S4_ann (p : List Nat) : Option LA :=
  none

def S4_nx (t : Nat) : Option (TypeId × TypeId) := none

def S4 (b_a : Option Addr) (b_l : Nat) (b_c : Nat) (w : World) (R : Value → World → Prop) : Prop :=
  Calls Try.prog 13 ⟨[(.slice b_a b_l b_c)]⟩ w fun e w_ =>
    ∃ (t9_a : Option Addr) (t9_l : Nat) (t9_c : Nat),
    e = .returned (.slice t9_a t9_l t9_c) ∧
    Calls Try.prog 15 ⟨[(.slice t9_a t9_l t9_c)]⟩ w_ fun e w__1 =>
      ∃ (t10_0_a : Option Addr) (t10_0_l : Nat) (t10_0_c : Nat) (t10_1 : Int),
      e = .returned (.tuple ⟨[(.slice t10_0_a t10_0_l t10_0_c), (.int .i64 t10_1)]⟩) ∧
      Calls Try.prog 13 ⟨[(.slice b_a b_l b_c)]⟩ w__1 fun e w__2 =>
        ∃ (t15_a : Option Addr) (t15_l : Nat) (t15_c : Nat),
        e = .returned (.slice t15_a t15_l t15_c) ∧
        Calls Try.prog 16 ⟨[(.slice t15_a t15_l t15_c)]⟩ w__2 fun e w__3 =>
          ∃ (t16_0_a : Option Addr) (t16_0_l : Nat) (t16_0_c : Nat) (t16_1 : Int),
          e = .returned (.tuple ⟨[(.slice t16_0_a t16_0_l t16_0_c), (.int .i64 t16_1)]⟩) ∧
          Calls Try.prog 11 ⟨[]⟩ w__3 fun e w__4 =>
            ∃ (t19 : Bool),
            e = .returned (.bool t19) ∧
            cond t19 (
              Calls Try.prog 17 ⟨[(.slice t10_0_a t10_0_l t10_0_c), (.slice t16_0_a t16_0_l t16_0_c)]⟩ w__4 fun e w__5 =>
                ∃ (t23 : Bool),
                e = .returned (.bool t23) ∧
                cond t23 (
                  R (.bool (decide ((t10_1 : Int) = t16_1))) w__5
                ) (
                  R (.bool false) w__5
                )
            ) (
              R (.bool false) w__4
            )

theorem S4_eq (b_a : Option Addr) (b_l : Nat) (b_c : Nat) (w : World) (R : Value → World → Prop) : Eng.R Try.prog ⟨cal, S4_nx⟩ 30 S4_ann [] (Try.f4.body.getD .skip) (bodyQ Try.prog #[.tmp 2] R) (argE [(.slice b_a b_l b_c)]) w = S4 b_a b_l b_c w R := by kernel_rfl
/-- A call of 'carfax/carfaxlaw02.CheckScans', by its condition. -/
theorem S4_calls {b_a : Option Addr} {b_l : Nat} {b_c : Nat} {w : World} {R : Value → World → Prop} (hS : S4 b_a b_l b_c w R) : Ret Try.prog 4 [(.slice b_a b_l b_c)] w R :=
  R_calls (C := ⟨cal, S4_nx⟩) cal_ok follows Try.func4 (c := Try.f4.body.getD .skip) (res := #[.tmp 2]) (n := 30) (by kernel_rfl) (by kernel_rfl) (by kernel_rfl) (by kernel_rfl) ((S4_eq b_a b_l b_c w R).mpr hS)

def S5_ann (p : List Nat) : Option LA := match p with
  | [0, 1, 0, 1, 1, 1, 1] => some ⟨[0, 1, 5, 18], [(6, .one .slice), (7, .one .slice), (19, .one (.int .i64))]⟩
  | [0, 0, 1, 1, 1, 1, 1, 1, 1] => some ⟨[0, 5, 6, 7, 11], [(12, .one (.int .i64)), (13, .one (.int .i64))]⟩
  | _ => none

def S5_nx (t : Nat) : Option (TypeId × TypeId) := none

def S5_k6 (l_a : Option Addr) (l_l : Nat) (l_c : Nat) (head : Bool) (all_a : Option Addr) (all_l : Nat) (all_c : Nat) (ends_a : Option Addr) (ends_l : Nat) (ends_c : Nat) (k : Int) (n_ : Int) (w : World) (R : Value → World → Prop) (B1 : (Int) × (Int) × Unit → World → Prop) : Prop :=
  ∃ (t71 : Addr),
  ends_a = some t71 ∧
  0 ≤ (n_ : Int) ∧
  (n_ : Int) < ((ends_l : Nat) : Int) ∧
  ∃ (t72 : Int),
  w.cell? (t71.add (Int.toNat n_ * 1)) = some (.int .i64 t72) ∧
  B1 ((IntKind.i64.wrap (n_ + 1)), t72, ()) w

def S5_k7 (l_a : Option Addr) (l_l : Nat) (l_c : Nat) (head : Bool) (all_a : Option Addr) (all_l : Nat) (all_c : Nat) (k : Int) (n_ : Int) (to : Int) (w : World) (R : Value → World → Prop) : Prop :=
  0 ≤ (k : Int) ∧
  (k : Int) ≤ ((all_c : Nat) : Int) ∧
  Calls Try.prog 15 ⟨[(.slice (slAddr all_a all_c 0 1) ((Int.toNat k) - 0) (all_c - 0))]⟩ w fun e w_ =>
    ∃ (t79_0_a : Option Addr) (t79_0_l : Nat) (t79_0_c : Nat) (t79_1 : Int),
    e = .returned (.tuple ⟨[(.slice t79_0_a t79_0_l t79_0_c), (.int .i64 t79_1)]⟩) ∧
    cond head (
      cond (decide ((t79_1 : Int) = to)) (
        cond (decide ((((t79_0_l : Nat) : Int) : Int) = n_)) (
          0 ≤ (n_ : Int) ∧
          (n_ : Int) ≤ ((l_c : Nat) : Int) ∧
          Calls Try.prog 17 ⟨[(.slice t79_0_a t79_0_l t79_0_c), (.slice (slAddr l_a l_c 0 1) ((Int.toNat n_) - 0) (l_c - 0))]⟩ w_ fun e w__1 =>
            ∃ (t99 : Bool),
            e = .returned (.bool t99) ∧
            R (.bool t99) w__1
        ) (
          R (.bool false) w_
        )
      ) (
        R (.bool false) w_
      )
    ) (
      R (.bool false) w_
    )

def S5_k5 (l_a : Option Addr) (l_l : Nat) (l_c : Nat) (head : Bool) (all_a : Option Addr) (all_l : Nat) (all_c : Nat) (ends_a : Option Addr) (ends_l : Nat) (ends_c : Nat) (k : Int) (n_ : Int) (to : Int) (t68 : Bool) (w : World) (R : Value → World → Prop) (B1 : (Int) × (Int) × Unit → World → Prop) : Prop :=
  cond t68 (
    S5_k6 l_a l_l l_c head all_a all_l all_c ends_a ends_l ends_c k n_ w R B1
  ) (
    S5_k7 l_a l_l l_c head all_a all_l all_c k n_ to w R
  )

def S5_L4 (l_a : Option Addr) (l_l : Nat) (l_c : Nat) (head : Bool) (all_a : Option Addr) (all_l : Nat) (all_c : Nat) (ends_a : Option Addr) (ends_l : Nat) (ends_c : Nat) (k : Int) (n_ : Int) (to : Int) (w : World) (R : Value → World → Prop) (B1 : (Int) × (Int) × Unit → World → Prop) : Prop :=
  cond (decide ((n_ : Int) < ((ends_l : Nat) : Int))) (
    ∃ (t64 : Addr),
    ends_a = some t64 ∧
    0 ≤ (n_ : Int) ∧
    (n_ : Int) < ((ends_l : Nat) : Int) ∧
    ∃ (t65 : Int),
    w.cell? (t64.add (Int.toNat n_ * 1)) = some (.int .i64 t65) ∧
    S5_k5 l_a l_l l_c head all_a all_l all_c ends_a ends_l ends_c k n_ to (decide ((t65 : Int) ≤ k)) w R B1
  ) (
    S5_k5 l_a l_l l_c head all_a all_l all_c ends_a ends_l ends_c k n_ to false w R B1
  )

def S5_k3 (l_a : Option Addr) (l_l : Nat) (l_c : Nat) (cut : Int) (head : Bool) (all_a : Option Addr) (all_l : Nat) (all_c : Nat) (ends_a : Option Addr) (ends_l : Nat) (ends_c : Nat) (w : World) (R : Value → World → Prop) : Prop :=
  ((IntKind.i64.wrap (((all_l : Nat) : Int) + 1)) : Int) ≠ 0 ∧
  ∃ (I : (Int) × (Int) × Unit → World → Prop) (μ : (Int) × (Int) × Unit → World → Nat),
  I (0, 0, ()) w ∧
  ∀ (J : Env) (s : (Int) × (Int) × Unit) (w' : World), I s w' →
    S5_L4 l_a l_l l_c head all_a all_l all_c ends_a ends_l ends_c (Int.tmod (IntKind.i64.wrap cut) (IntKind.i64.wrap (((all_l : Nat) : Int) + 1))) s.1 s.2.1 w' R (fun s' w'' => I s' w'' ∧ μ s' w'' < μ s w')

def S5_k9 (l_a : Option Addr) (l_l : Nat) (l_c : Nat) (cut : Int) (head : Bool) (all_a : Option Addr) (all_l : Nat) (all_c : Nat) (ends_a : Option Addr) (ends_l : Nat) (ends_c : Nat) (f_a : Option Addr) (f_l : Nat) (f_c : Nat) (t18 : Int) (t19 : Int) (w : World) (R : Value → World → Prop) (B1 : (Option Addr × Nat × Nat) × (Option Addr × Nat × Nat) × (Int) × Unit → World → Prop) : Prop :=
  ∃ (t44_a : Option Addr) (t44_l : Nat) (t44_c : Nat) (w_ : World),
  (Builtin.append_ #[22, 22] 22 ⟨[(.slice all_a all_l all_c), (.slice f_a f_l f_c)]⟩).run Try.prog w = .ok (.slice t44_a t44_l t44_c) w_ ∧
  ∃ (t49_a : Option Addr) (t49_l : Nat) (t49_c : Nat) (w__1 : World),
  (Builtin.append_ #[32, 32] 32 ⟨[(.slice ends_a ends_l ends_c), (.slice (some ⟨w_.heap.size, 0, none⟩) 1 1)]⟩).run Try.prog (w_.alloc (.cells ⟨[(.int .i64 ((t44_l : Nat) : Int))]⟩ 3)) = .ok (.slice t49_a t49_l t49_c) w__1 ∧
  B1 ((t44_a, t44_l, t44_c), (t49_a, t49_l, t49_c), (IntKind.i64.wrap (t19 + 1)), ()) w__1

def S5_k8 (l_a : Option Addr) (l_l : Nat) (l_c : Nat) (cut : Int) (head : Bool) (all_a : Option Addr) (all_l : Nat) (all_c : Nat) (ends_a : Option Addr) (ends_l : Nat) (ends_c : Nat) (i : Int) (t18 : Int) (t19 : Int) (w : World) (R : Value → World → Prop) (B1 : (Option Addr × Nat × Nat) × (Option Addr × Nat × Nat) × (Int) × Unit → World → Prop) : Prop :=
  ∃ (t35 : Addr),
  l_a = some t35 ∧
  0 ≤ (i : Int) ∧
  (i : Int) < ((l_l : Nat) : Int) ∧
  ∃ (t36_a : Option Addr) (t36_l : Nat) (t36_c : Nat),
  w.cell? (t35.add (Int.toNat i * 1)) = some (.slice t36_a t36_l t36_c) ∧
  Calls Try.prog 18 ⟨[(.slice t36_a t36_l t36_c)]⟩ w fun e w_ =>
    ∃ (t37_0_a : Option Addr) (t37_0_l : Nat) (t37_0_c : Nat) (t37_1 : Int),
    e = .returned (.tuple ⟨[(.slice t37_0_a t37_0_l t37_0_c), (.int .i64 t37_1)]⟩) ∧
    cond (!decide ((t37_1 : Int) = 0)) (
      R (.bool false) w_
    ) (
      S5_k9 l_a l_l l_c cut head all_a all_l all_c ends_a ends_l ends_c t37_0_a t37_0_l t37_0_c t18 t19 w_ R B1
    )

def S5_k2 (l_a : Option Addr) (l_l : Nat) (l_c : Nat) (cut : Int) (head : Bool) (all_a : Option Addr) (all_l : Nat) (all_c : Nat) (ends_a : Option Addr) (ends_l : Nat) (ends_c : Nat) (i : Int) (t18 : Int) (t19 : Int) (t31 : Bool) (w : World) (R : Value → World → Prop) (B1 : (Option Addr × Nat × Nat) × (Option Addr × Nat × Nat) × (Int) × Unit → World → Prop) : Prop :=
  cond t31 (
    S5_k3 l_a l_l l_c cut head all_a all_l all_c ends_a ends_l ends_c w R
  ) (
    S5_k8 l_a l_l l_c cut head all_a all_l all_c ends_a ends_l ends_c i t18 t19 w R B1
  )

def S5_k1 (l_a : Option Addr) (l_l : Nat) (l_c : Nat) (cut : Int) (head : Bool) (all_a : Option Addr) (all_l : Nat) (all_c : Nat) (ends_a : Option Addr) (ends_l : Nat) (ends_c : Nat) (t18 : Int) (t19 : Int) (w : World) (R : Value → World → Prop) (B1 : (Option Addr × Nat × Nat) × (Option Addr × Nat × Nat) × (Int) × Unit → World → Prop) : Prop :=
  cond (decide ((20 : Int) ≤ t19)) (
    S5_k2 l_a l_l l_c cut head all_a all_l all_c ends_a ends_l ends_c t19 t18 t19 true w R B1
  ) (
    ∃ (t27 : Addr),
    l_a = some t27 ∧
    0 ≤ (t19 : Int) ∧
    (t19 : Int) < ((l_l : Nat) : Int) ∧
    ∃ (t28_a : Option Addr) (t28_l : Nat) (t28_c : Nat),
    w.cell? (t27.add (Int.toNat t19 * 1)) = some (.slice t28_a t28_l t28_c) ∧
    S5_k2 l_a l_l l_c cut head all_a all_l all_c ends_a ends_l ends_c t19 t18 t19 (decide ((1000 : Int) < ((t28_l : Nat) : Int))) w R B1
  )

def S5_L0 (l_a : Option Addr) (l_l : Nat) (l_c : Nat) (cut : Int) (head : Bool) (all_a : Option Addr) (all_l : Nat) (all_c : Nat) (ends_a : Option Addr) (ends_l : Nat) (ends_c : Nat) (t18 : Int) (t19 : Int) (w : World) (R : Value → World → Prop) (B1 : (Option Addr × Nat × Nat) × (Option Addr × Nat × Nat) × (Int) × Unit → World → Prop) : Prop :=
  cond (decide ((t19 : Int) < t18)) (
    S5_k1 l_a l_l l_c cut head all_a all_l all_c ends_a ends_l ends_c t18 t19 w R B1
  ) (
    S5_k3 l_a l_l l_c cut head all_a all_l all_c ends_a ends_l ends_c w R
  )

def S5 (l_a : Option Addr) (l_l : Nat) (l_c : Nat) (cut : Int) (w : World) (R : Value → World → Prop) : Prop :=
  Calls Try.prog 11 ⟨[]⟩ w fun e w_ =>
    ∃ (t16 : Bool),
    e = .returned (.bool t16) ∧
    ∃ (I : (Option Addr × Nat × Nat) × (Option Addr × Nat × Nat) × (Int) × Unit → World → Prop) (μ : (Option Addr × Nat × Nat) × (Option Addr × Nat × Nat) × (Int) × Unit → World → Nat),
    I ((none, 0, 0), (none, 0, 0), 0, ()) w_ ∧
    ∀ (J : Env) (s : (Option Addr × Nat × Nat) × (Option Addr × Nat × Nat) × (Int) × Unit) (w' : World), I s w' →
      S5_L0 l_a l_l l_c cut t16 s.1.1 s.1.2.1 s.1.2.2 s.2.1.1 s.2.1.2.1 s.2.1.2.2 ((l_l : Nat) : Int) s.2.2.1 w' R (fun s' w'' => I s' w'' ∧ μ s' w'' < μ s w')

theorem S5_eq (l_a : Option Addr) (l_l : Nat) (l_c : Nat) (cut : Int) (w : World) (R : Value → World → Prop) : Eng.R Try.prog ⟨cal, S5_nx⟩ 101 S5_ann [] (Try.f5.body.getD .skip) (bodyQ Try.prog #[.tmp 4] R) (argE [(.slice l_a l_l l_c), (.int .u16 cut)]) w = S5 l_a l_l l_c cut w R := by kernel_rfl
/-- A call of 'carfax/carfaxlaw02.CheckList', by its condition. -/
theorem S5_calls {l_a : Option Addr} {l_l : Nat} {l_c : Nat} {cut : Int} {w : World} {R : Value → World → Prop} (hS : S5 l_a l_l l_c cut w R) : Ret Try.prog 5 [(.slice l_a l_l l_c), (.int .u16 cut)] w R :=
  R_calls (C := ⟨cal, S5_nx⟩) cal_ok follows Try.func5 (c := Try.f5.body.getD .skip) (res := #[.tmp 4]) (n := 101) (by kernel_rfl) (by kernel_rfl) (by kernel_rfl) (by kernel_rfl) ((S5_eq l_a l_l l_c cut w R).mpr hS)

def S6_ann (p : List Nat) : Option LA := match p with
  | [0, 1, 0, 1, 1, 1, 1] => some ⟨[0, 1, 2, 7, 8, 9, 22], [(23, .one (.int .i64))]⟩
  | _ => none

def S6_nx (t : Nat) : Option (TypeId × TypeId) := none

def S6_k1 (a_a : Option Addr) (a_l : Nat) (a_c : Nat) (b_a : Option Addr) (b_l : Nat) (b_c : Nat) (c_a : Option Addr) (c_l : Nat) (c_c : Nat) (head : Bool) (n_ : Int) (d_a : Option Addr) (d_l : Nat) (d_c : Nat) (t22 : Int) (t23 : Int) (w : World) (R : Value → World → Prop) (B1 : (Int) × Unit → World → Prop) : Prop :=
  ∃ (t30 : Addr),
  a_a = some t30 ∧
  0 ≤ (t23 : Int) ∧
  (t23 : Int) < ((a_l : Nat) : Int) ∧
  ∃ (t31 : Int),
  w.drew.cell? (t30.add (Int.toNat t23 * 1)) = some (.int .u8 t31) ∧
  ∃ (t34 : Addr),
  b_a = some t34 ∧
  0 ≤ (t23 : Int) ∧
  (t23 : Int) < ((b_l : Nat) : Int) ∧
  ∃ (t35 : Int),
  w.drew.cell? (t34.add (Int.toNat t23 * 1)) = some (.int .u8 t35) ∧
  ∃ (t39 : Addr),
  c_a = some t39 ∧
  0 ≤ (t23 : Int) ∧
  (t23 : Int) < ((c_l : Nat) : Int) ∧
  ∃ (t40 : Int),
  w.drew.cell? (t39.add (Int.toNat t23 * 1)) = some (.int .u8 t40) ∧
  ∃ (t42 : Addr),
  d_a = some t42 ∧
  0 ≤ (t23 : Int) ∧
  (t23 : Int) < ((d_l : Nat) : Int) ∧
  (∃ u, w.drew.cell? (t42.add (Int.toNat t23 * 1)) = some u) ∧
  w.drew.frozen? (t42.add (Int.toNat t23 * 1)) = false ∧
  B1 ((IntKind.i64.wrap (t23 + 1)), ()) (w.drew.setCell (t42.add (Int.toNat t23 * 1)) (.int .u8 (bitsI .xor .u8 (bitsI .xor .u8 t31 t35) t40)))

def S6_k2 (a_a : Option Addr) (a_l : Nat) (a_c : Nat) (b_a : Option Addr) (b_l : Nat) (b_c : Nat) (c_a : Option Addr) (c_l : Nat) (c_c : Nat) (head : Bool) (n_ : Int) (d_a : Option Addr) (d_l : Nat) (d_c : Nat) (w : World) (R : Value → World → Prop) : Prop :=
  cond head (
    0 ≤ (n_ : Int) ∧
    (n_ : Int) ≤ ((a_c : Nat) : Int) ∧
    0 ≤ (n_ : Int) ∧
    (n_ : Int) ≤ ((b_c : Nat) : Int) ∧
    0 ≤ (n_ : Int) ∧
    (n_ : Int) ≤ ((c_c : Nat) : Int) ∧
    Calls Try.prog 12 ⟨[(.slice (slAddr a_a a_c 0 1) ((Int.toNat n_) - 0) (a_c - 0))]⟩ w.drew fun e w_ =>
      ∃ (t49 : Int),
      e = .returned (.int .u16 t49) ∧
      Calls Try.prog 12 ⟨[(.slice (slAddr b_a b_c 0 1) ((Int.toNat n_) - 0) (b_c - 0))]⟩ w_ fun e w__1 =>
        ∃ (t53 : Int),
        e = .returned (.int .u16 t53) ∧
        Calls Try.prog 12 ⟨[(.slice (slAddr c_a c_c 0 1) ((Int.toNat n_) - 0) (c_c - 0))]⟩ w__1 fun e w__2 =>
          ∃ (t58 : Int),
          e = .returned (.int .u16 t58) ∧
          Calls Try.prog 12 ⟨[(.slice d_a d_l d_c)]⟩ w__2 fun e w__3 =>
            ∃ (t61 : Int),
            e = .returned (.int .u16 t61) ∧
            R (.bool (decide (((bitsI .xor .u16 (bitsI .xor .u16 t49 t53) t58) : Int) = t61))) w__3
  ) (
    R (.bool false) w.drew
  )

def S6_L0 (a_a : Option Addr) (a_l : Nat) (a_c : Nat) (b_a : Option Addr) (b_l : Nat) (b_c : Nat) (c_a : Option Addr) (c_l : Nat) (c_c : Nat) (head : Bool) (n_ : Int) (d_a : Option Addr) (d_l : Nat) (d_c : Nat) (t22 : Int) (t23 : Int) (w : World) (R : Value → World → Prop) (B1 : (Int) × Unit → World → Prop) : Prop :=
  cond (decide ((t23 : Int) < t22)) (
    S6_k1 a_a a_l a_c b_a b_l b_c c_a c_l c_c head n_ d_a d_l d_c t22 t23 w R B1
  ) (
    S6_k2 a_a a_l a_c b_a b_l b_c c_a c_l c_c head n_ d_a d_l d_c w R
  )

def S6 (a_a : Option Addr) (a_l : Nat) (a_c : Nat) (b_a : Option Addr) (b_l : Nat) (b_c : Nat) (c_a : Option Addr) (c_l : Nat) (c_c : Nat) (w : World) (R : Value → World → Prop) : Prop :=
  Calls Try.prog 11 ⟨[]⟩ w fun e w_ =>
    ∃ (t11 : Bool),
    e = .returned (.bool t11) ∧
    ∃ (t20_a : Option Addr) (t20_l : Nat) (t20_c : Nat) (w__1 : World),
    (Instr.makeSlice 22 (.int .i64 (if 10000 < (if ((c_l : Nat) : Int) < (if ((b_l : Nat) : Int) < ((a_l : Nat) : Int) then ((b_l : Nat) : Int) else ((a_l : Nat) : Int)) then ((c_l : Nat) : Int) else (if ((b_l : Nat) : Int) < ((a_l : Nat) : Int) then ((b_l : Nat) : Int) else ((a_l : Nat) : Int))) then 10000 else (if ((c_l : Nat) : Int) < (if ((b_l : Nat) : Int) < ((a_l : Nat) : Int) then ((b_l : Nat) : Int) else ((a_l : Nat) : Int)) then ((c_l : Nat) : Int) else (if ((b_l : Nat) : Int) < ((a_l : Nat) : Int) then ((b_l : Nat) : Int) else ((a_l : Nat) : Int))))) (.int .i64 (if 10000 < (if ((c_l : Nat) : Int) < (if ((b_l : Nat) : Int) < ((a_l : Nat) : Int) then ((b_l : Nat) : Int) else ((a_l : Nat) : Int)) then ((c_l : Nat) : Int) else (if ((b_l : Nat) : Int) < ((a_l : Nat) : Int) then ((b_l : Nat) : Int) else ((a_l : Nat) : Int))) then 10000 else (if ((c_l : Nat) : Int) < (if ((b_l : Nat) : Int) < ((a_l : Nat) : Int) then ((b_l : Nat) : Int) else ((a_l : Nat) : Int)) then ((c_l : Nat) : Int) else (if ((b_l : Nat) : Int) < ((a_l : Nat) : Int) then ((b_l : Nat) : Int) else ((a_l : Nat) : Int)))))).run Try.prog w_ = .ok (.slice t20_a t20_l t20_c) w__1 ∧
    ∃ (I : (Int) × Unit → World → Prop) (μ : (Int) × Unit → World → Nat),
    I (0, ()) w__1 ∧
    ∀ (J : Env) (s : (Int) × Unit) (w' : World), I s w' →
      S6_L0 a_a a_l a_c b_a b_l b_c c_a c_l c_c t11 (if 10000 < (if ((c_l : Nat) : Int) < (if ((b_l : Nat) : Int) < ((a_l : Nat) : Int) then ((b_l : Nat) : Int) else ((a_l : Nat) : Int)) then ((c_l : Nat) : Int) else (if ((b_l : Nat) : Int) < ((a_l : Nat) : Int) then ((b_l : Nat) : Int) else ((a_l : Nat) : Int))) then 10000 else (if ((c_l : Nat) : Int) < (if ((b_l : Nat) : Int) < ((a_l : Nat) : Int) then ((b_l : Nat) : Int) else ((a_l : Nat) : Int)) then ((c_l : Nat) : Int) else (if ((b_l : Nat) : Int) < ((a_l : Nat) : Int) then ((b_l : Nat) : Int) else ((a_l : Nat) : Int)))) t20_a t20_l t20_c ((t20_l : Nat) : Int) s.1 w' R (fun s' w'' => I s' w'' ∧ μ s' w'' < μ s w')

theorem S6_eq (a_a : Option Addr) (a_l : Nat) (a_c : Nat) (b_a : Option Addr) (b_l : Nat) (b_c : Nat) (c_a : Option Addr) (c_l : Nat) (c_c : Nat) (w : World) (R : Value → World → Prop) : Eng.R Try.prog ⟨cal, S6_nx⟩ 64 S6_ann [] (Try.f6.body.getD .skip) (bodyQ Try.prog #[.tmp 6] R) (argE [(.slice a_a a_l a_c), (.slice b_a b_l b_c), (.slice c_a c_l c_c)]) w = S6 a_a a_l a_c b_a b_l b_c c_a c_l c_c w R := by kernel_rfl
/-- A call of 'carfax/carfaxlaw02.CheckThree', by its condition. -/
theorem S6_calls {a_a : Option Addr} {a_l : Nat} {a_c : Nat} {b_a : Option Addr} {b_l : Nat} {b_c : Nat} {c_a : Option Addr} {c_l : Nat} {c_c : Nat} {w : World} {R : Value → World → Prop} (hS : S6 a_a a_l a_c b_a b_l b_c c_a c_l c_c w R) : Ret Try.prog 6 [(.slice a_a a_l a_c), (.slice b_a b_l b_c), (.slice c_a c_l c_c)] w R :=
  R_calls (C := ⟨cal, S6_nx⟩) cal_ok follows Try.func6 (c := Try.f6.body.getD .skip) (res := #[.tmp 6]) (n := 64) (by kernel_rfl) (by kernel_rfl) (by kernel_rfl) (by kernel_rfl) ((S6_eq a_a a_l a_c b_a b_l b_c c_a c_l c_c w R).mpr hS)

def S7_ann (p : List Nat) : Option LA := match p with
  | [0, 1, 0, 1, 1, 1, 1, 1, 1, 1, 1] => some ⟨[1, 5, 6, 7, 8, 9, 10, 42], [(11, .one .slice), (12, .one (.int .i64)), (43, .one (.int .i64))]⟩
  | _ => none

def S7_nx (t : Nat) : Option (TypeId × TypeId) := none

def S7_k7 (l_a : Option Addr) (l_l : Nat) (l_c : Nat) (head : Bool) (m_a : Option Addr) (m_l : Nat) (m_c : Nat) (rest_a : Option Addr) (rest_l : Nat) (rest_c : Nat) (k : Int) (many : Int) (both_a : Option Addr) (both_l : Nat) (both_c : Nat) (w : World) (R : Value → World → Prop) : Prop :=
  cond head (
    cond (decide ((((rest_l : Nat) : Int) : Int) = 0)) (
      cond (decide ((k : Int) = 0)) (
        0 ≤ (many : Int) ∧
        (many : Int) ≤ ((both_c : Nat) : Int) ∧
        0 ≤ (many : Int) ∧
        (many : Int) ≤ ((l_c : Nat) : Int) ∧
        Calls Try.prog 17 ⟨[(.slice (slAddr both_a both_c 0 1) ((Int.toNat many) - 0) (both_c - 0)), (.slice (slAddr l_a l_c 0 1) ((Int.toNat many) - 0) (l_c - 0))]⟩ w.drew fun e w_ =>
          ∃ (t113 : Bool),
          e = .returned (.bool t113) ∧
          cond t113 (
            0 ≤ (many : Int) ∧
            (many : Int) ≤ ((both_l : Nat) : Int) ∧
            Calls Try.prog 17 ⟨[(.slice (slAddr both_a both_c (Int.toNat many) 1) (both_l - (Int.toNat many)) (both_c - (Int.toNat many))), (.slice m_a m_l m_c)]⟩ w_ fun e w__1 =>
              ∃ (t120 : Bool),
              e = .returned (.bool t120) ∧
              R (.bool t120) w__1
          ) (
            R (.bool false) w_
          )
      ) (
        R (.bool false) w.drew
      )
    ) (
      R (.bool false) w.drew
    )
  ) (
    R (.bool false) w.drew
  )

def S7_k6 (l_a : Option Addr) (l_l : Nat) (l_c : Nat) (head : Bool) (m_a : Option Addr) (m_l : Nat) (m_c : Nat) (rest_a : Option Addr) (rest_l : Nat) (rest_c : Nat) (k : Int) (many : Int) (both_a : Option Addr) (both_l : Nat) (both_c : Nat) (t95 : Bool) (w : World) (R : Value → World → Prop) : Prop :=
  cond t95 (
    R (.bool false) w
  ) (
    S7_k7 l_a l_l l_c head m_a m_l m_c rest_a rest_l rest_c k many both_a both_l both_c w R
  )

def S7_k5 (l_a : Option Addr) (l_l : Nat) (l_c : Nat) (head : Bool) (x_a : Option Addr) (x_l : Nat) (x_c : Nat) (m_a : Option Addr) (m_l : Nat) (m_c : Nat) (n_ : Int) (rest_a : Option Addr) (rest_l : Nat) (rest_c : Nat) (k : Int) (all_a : Option Addr) (all_l : Nat) (all_c : Nat) (many : Int) (w : World) (R : Value → World → Prop) : Prop :=
  ∃ (t75_a : Option Addr) (t75_l : Nat) (t75_c : Nat) (w_ : World),
  (Builtin.append_ #[22, 22] 22 ⟨[(.slice (some ⟨w.heap.size, 0, none⟩) 0 0), (.slice all_a all_l all_c)]⟩).run Try.prog (w.alloc (.cells ⟨[]⟩ 5)) = .ok (.slice t75_a t75_l t75_c) w_ ∧
  ∃ (t77_a : Option Addr) (t77_l : Nat) (t77_c : Nat) (w__1 : World),
  (Builtin.append_ #[22, 22] 22 ⟨[(.slice t75_a t75_l t75_c), (.slice x_a x_l x_c)]⟩).run Try.prog w_ = .ok (.slice t77_a t77_l t77_c) w__1 ∧
  Calls Try.prog 15 ⟨[(.slice t77_a t77_l t77_c)]⟩ w__1 fun e w__2 =>
    ∃ (t78_0_a : Option Addr) (t78_0_l : Nat) (t78_0_c : Nat) (t78_1 : Int),
    e = .returned (.tuple ⟨[(.slice t78_0_a t78_0_l t78_0_c), (.int .i64 t78_1)]⟩) ∧
    cond (!decide ((((t78_0_l : Nat) : Int) : Int) = (IntKind.i64.wrap (many + ((m_l : Nat) : Int))))) (
      S7_k6 l_a l_l l_c head m_a m_l m_c rest_a rest_l rest_c k many t78_0_a t78_0_l t78_0_c true w__2 R
    ) (
      S7_k6 l_a l_l l_c head m_a m_l m_c rest_a rest_l rest_c k many t78_0_a t78_0_l t78_0_c (!decide ((t78_1 : Int) = (IntKind.i64.wrap (((all_l : Nat) : Int) + n_)))) w__2 R
    )

def S7_k9 (l_a : Option Addr) (l_l : Nat) (l_c : Nat) (head : Bool) (x_a : Option Addr) (x_l : Nat) (x_c : Nat) (m_a : Option Addr) (m_l : Nat) (m_c : Nat) (n_ : Int) (rest_a : Option Addr) (rest_l : Nat) (rest_c : Nat) (k : Int) (all_a : Option Addr) (all_l : Nat) (all_c : Nat) (many : Int) (f_a : Option Addr) (f_l : Nat) (f_c : Nat) (t42 : Int) (t43 : Int) (w : World) (R : Value → World → Prop) (B1 : (Option Addr × Nat × Nat) × (Int) × (Int) × Unit → World → Prop) : Prop :=
  ∃ (t68_a : Option Addr) (t68_l : Nat) (t68_c : Nat) (w_ : World),
  (Builtin.append_ #[22, 22] 22 ⟨[(.slice all_a all_l all_c), (.slice f_a f_l f_c)]⟩).run Try.prog w = .ok (.slice t68_a t68_l t68_c) w_ ∧
  B1 ((t68_a, t68_l, t68_c), (IntKind.i64.wrap (many + 1)), (IntKind.i64.wrap (t43 + 1)), ()) w_

def S7_k8 (l_a : Option Addr) (l_l : Nat) (l_c : Nat) (head : Bool) (x_a : Option Addr) (x_l : Nat) (x_c : Nat) (m_a : Option Addr) (m_l : Nat) (m_c : Nat) (n_ : Int) (rest_a : Option Addr) (rest_l : Nat) (rest_c : Nat) (k : Int) (all_a : Option Addr) (all_l : Nat) (all_c : Nat) (many : Int) (i : Int) (t42 : Int) (t43 : Int) (w : World) (R : Value → World → Prop) (B1 : (Option Addr × Nat × Nat) × (Int) × (Int) × Unit → World → Prop) : Prop :=
  ∃ (t59 : Addr),
  l_a = some t59 ∧
  0 ≤ (i : Int) ∧
  (i : Int) < ((l_l : Nat) : Int) ∧
  ∃ (t60_a : Option Addr) (t60_l : Nat) (t60_c : Nat),
  w.cell? (t59.add (Int.toNat i * 1)) = some (.slice t60_a t60_l t60_c) ∧
  Calls Try.prog 18 ⟨[(.slice t60_a t60_l t60_c)]⟩ w fun e w_ =>
    ∃ (t61_0_a : Option Addr) (t61_0_l : Nat) (t61_0_c : Nat) (t61_1 : Int),
    e = .returned (.tuple ⟨[(.slice t61_0_a t61_0_l t61_0_c), (.int .i64 t61_1)]⟩) ∧
    cond (!decide ((t61_1 : Int) = 0)) (
      R (.bool false) w_
    ) (
      S7_k9 l_a l_l l_c head x_a x_l x_c m_a m_l m_c n_ rest_a rest_l rest_c k all_a all_l all_c many t61_0_a t61_0_l t61_0_c t42 t43 w_ R B1
    )

def S7_k4 (l_a : Option Addr) (l_l : Nat) (l_c : Nat) (head : Bool) (x_a : Option Addr) (x_l : Nat) (x_c : Nat) (m_a : Option Addr) (m_l : Nat) (m_c : Nat) (n_ : Int) (rest_a : Option Addr) (rest_l : Nat) (rest_c : Nat) (k : Int) (all_a : Option Addr) (all_l : Nat) (all_c : Nat) (many : Int) (i : Int) (t42 : Int) (t43 : Int) (t55 : Bool) (w : World) (R : Value → World → Prop) (B1 : (Option Addr × Nat × Nat) × (Int) × (Int) × Unit → World → Prop) : Prop :=
  cond t55 (
    S7_k5 l_a l_l l_c head x_a x_l x_c m_a m_l m_c n_ rest_a rest_l rest_c k all_a all_l all_c many w R
  ) (
    S7_k8 l_a l_l l_c head x_a x_l x_c m_a m_l m_c n_ rest_a rest_l rest_c k all_a all_l all_c many i t42 t43 w R B1
  )

def S7_k3 (l_a : Option Addr) (l_l : Nat) (l_c : Nat) (head : Bool) (x_a : Option Addr) (x_l : Nat) (x_c : Nat) (m_a : Option Addr) (m_l : Nat) (m_c : Nat) (n_ : Int) (rest_a : Option Addr) (rest_l : Nat) (rest_c : Nat) (k : Int) (all_a : Option Addr) (all_l : Nat) (all_c : Nat) (many : Int) (t42 : Int) (t43 : Int) (w : World) (R : Value → World → Prop) (B1 : (Option Addr × Nat × Nat) × (Int) × (Int) × Unit → World → Prop) : Prop :=
  cond (decide ((10 : Int) ≤ t43)) (
    S7_k4 l_a l_l l_c head x_a x_l x_c m_a m_l m_c n_ rest_a rest_l rest_c k all_a all_l all_c many t43 t42 t43 true w R B1
  ) (
    ∃ (t51 : Addr),
    l_a = some t51 ∧
    0 ≤ (t43 : Int) ∧
    (t43 : Int) < ((l_l : Nat) : Int) ∧
    ∃ (t52_a : Option Addr) (t52_l : Nat) (t52_c : Nat),
    w.cell? (t51.add (Int.toNat t43 * 1)) = some (.slice t52_a t52_l t52_c) ∧
    S7_k4 l_a l_l l_c head x_a x_l x_c m_a m_l m_c n_ rest_a rest_l rest_c k all_a all_l all_c many t43 t42 t43 (decide ((1000 : Int) < ((t52_l : Nat) : Int))) w R B1
  )

def S7_L2 (l_a : Option Addr) (l_l : Nat) (l_c : Nat) (head : Bool) (x_a : Option Addr) (x_l : Nat) (x_c : Nat) (m_a : Option Addr) (m_l : Nat) (m_c : Nat) (n_ : Int) (rest_a : Option Addr) (rest_l : Nat) (rest_c : Nat) (k : Int) (all_a : Option Addr) (all_l : Nat) (all_c : Nat) (many : Int) (t42 : Int) (t43 : Int) (w : World) (R : Value → World → Prop) (B1 : (Option Addr × Nat × Nat) × (Int) × (Int) × Unit → World → Prop) : Prop :=
  cond (decide ((t43 : Int) < t42)) (
    S7_k3 l_a l_l l_c head x_a x_l x_c m_a m_l m_c n_ rest_a rest_l rest_c k all_a all_l all_c many t42 t43 w R B1
  ) (
    S7_k5 l_a l_l l_c head x_a x_l x_c m_a m_l m_c n_ rest_a rest_l rest_c k all_a all_l all_c many w R
  )

def S7_k1 (l_a : Option Addr) (l_l : Nat) (l_c : Nat) (head : Bool) (x_a : Option Addr) (x_l : Nat) (x_c : Nat) (m_a : Option Addr) (m_l : Nat) (m_c : Nat) (n_ : Int) (w : World) (R : Value → World → Prop) : Prop :=
  0 ≤ (n_ : Int) ∧
  (n_ : Int) ≤ ((x_l : Nat) : Int) ∧
  Calls Try.prog 15 ⟨[(.slice (slAddr x_a x_c (Int.toNat n_) 1) (x_l - (Int.toNat n_)) (x_c - (Int.toNat n_)))]⟩ w fun e w_ =>
    ∃ (t38_0_a : Option Addr) (t38_0_l : Nat) (t38_0_c : Nat) (t38_1 : Int),
    e = .returned (.tuple ⟨[(.slice t38_0_a t38_0_l t38_0_c), (.int .i64 t38_1)]⟩) ∧
    ∃ (I : (Option Addr × Nat × Nat) × (Int) × (Int) × Unit → World → Prop) (μ : (Option Addr × Nat × Nat) × (Int) × (Int) × Unit → World → Nat),
    I ((none, 0, 0), 0, 0, ()) w_ ∧
    ∀ (J : Env) (s : (Option Addr × Nat × Nat) × (Int) × (Int) × Unit) (w' : World), I s w' →
      S7_L2 l_a l_l l_c head x_a x_l x_c m_a m_l m_c n_ t38_0_a t38_0_l t38_0_c t38_1 s.1.1 s.1.2.1 s.1.2.2 s.2.1 ((l_l : Nat) : Int) s.2.2.1 w' R (fun s' w'' => I s' w'' ∧ μ s' w'' < μ s w')

def S7_k0 (l_a : Option Addr) (l_l : Nat) (l_c : Nat) (head : Bool) (x_a : Option Addr) (x_l : Nat) (x_c : Nat) (m_a : Option Addr) (m_l : Nat) (m_c : Nat) (n_ : Int) (t33 : Bool) (w : World) (R : Value → World → Prop) : Prop :=
  cond t33 (
    R (.bool false) w
  ) (
    S7_k1 l_a l_l l_c head x_a x_l x_c m_a m_l m_c n_ w R
  )

def S7 (b_a : Option Addr) (b_l : Nat) (b_c : Nat) (l_a : Option Addr) (l_l : Nat) (l_c : Nat) (w : World) (R : Value → World → Prop) : Prop :=
  Calls Try.prog 11 ⟨[]⟩ w fun e w_ =>
    ∃ (t18 : Bool),
    e = .returned (.bool t18) ∧
    Calls Try.prog 13 ⟨[(.slice b_a b_l b_c)]⟩ w_ fun e w__1 =>
      ∃ (t20_a : Option Addr) (t20_l : Nat) (t20_c : Nat),
      e = .returned (.slice t20_a t20_l t20_c) ∧
      Calls Try.prog 15 ⟨[(.slice t20_a t20_l t20_c)]⟩ w__1 fun e w__2 =>
        ∃ (t23_0_a : Option Addr) (t23_0_l : Nat) (t23_0_c : Nat) (t23_1 : Int),
        e = .returned (.tuple ⟨[(.slice t23_0_a t23_0_l t23_0_c), (.int .i64 t23_1)]⟩) ∧
        cond (decide ((t23_1 : Int) < 0)) (
          S7_k0 l_a l_l l_c t18 t20_a t20_l t20_c t23_0_a t23_0_l t23_0_c t23_1 true w__2 R
        ) (
          S7_k0 l_a l_l l_c t18 t20_a t20_l t20_c t23_0_a t23_0_l t23_0_c t23_1 (decide ((((t20_l : Nat) : Int) : Int) < t23_1)) w__2 R
        )

theorem S7_eq (b_a : Option Addr) (b_l : Nat) (b_c : Nat) (l_a : Option Addr) (l_l : Nat) (l_c : Nat) (w : World) (R : Value → World → Prop) : Eng.R Try.prog ⟨cal, S7_nx⟩ 122 S7_ann [] (Try.f7.body.getD .skip) (bodyQ Try.prog #[.tmp 4] R) (argE [(.slice b_a b_l b_c), (.slice l_a l_l l_c)]) w = S7 b_a b_l b_c l_a l_l l_c w R := by kernel_rfl
/-- A call of 'carfax/carfaxlaw02.CheckBehind', by its condition. -/
theorem S7_calls {b_a : Option Addr} {b_l : Nat} {b_c : Nat} {l_a : Option Addr} {l_l : Nat} {l_c : Nat} {w : World} {R : Value → World → Prop} (hS : S7 b_a b_l b_c l_a l_l l_c w R) : Ret Try.prog 7 [(.slice b_a b_l b_c), (.slice l_a l_l l_c)] w R :=
  R_calls (C := ⟨cal, S7_nx⟩) cal_ok follows Try.func7 (c := Try.f7.body.getD .skip) (res := #[.tmp 4]) (n := 122) (by kernel_rfl) (by kernel_rfl) (by kernel_rfl) (by kernel_rfl) ((S7_eq b_a b_l b_c l_a l_l l_c w R).mpr hS)

def S8_ann (p : List Nat) : Option LA :=
  none

def S8_nx (t : Nat) : Option (TypeId × TypeId) := none

def S8 (b_a : Option Addr) (b_l : Nat) (b_c : Nat) (w : World) (R : Value → World → Prop) : Prop :=
  Calls Try.prog 11 ⟨[]⟩ w fun e w_ =>
    ∃ (t12 : Bool),
    e = .returned (.bool t12) ∧
    Calls Try.prog 13 ⟨[(.slice b_a b_l b_c)]⟩ w_ fun e w__1 =>
      ∃ (t15_a : Option Addr) (t15_l : Nat) (t15_c : Nat),
      e = .returned (.slice t15_a t15_l t15_c) ∧
      Calls Try.prog 18 ⟨[(.slice t15_a t15_l t15_c)]⟩ w__1 fun e w__2 =>
        ∃ (t16_0_a : Option Addr) (t16_0_l : Nat) (t16_0_c : Nat) (t16_1 : Int),
        e = .returned (.tuple ⟨[(.slice t16_0_a t16_0_l t16_0_c), (.int .i64 t16_1)]⟩) ∧
        Calls Try.prog 13 ⟨[(.slice b_a b_l b_c)]⟩ w__2 fun e w__3 =>
          ∃ (t21_a : Option Addr) (t21_l : Nat) (t21_c : Nat),
          e = .returned (.slice t21_a t21_l t21_c) ∧
          Calls Try.prog 19 ⟨[(.slice t21_a t21_l t21_c)]⟩ w__3 fun e w__4 =>
            ∃ (t22_0_a : Option Addr) (t22_0_l : Nat) (t22_0_c : Nat) (t22_1 : Int),
            e = .returned (.tuple ⟨[(.slice t22_0_a t22_0_l t22_0_c), (.int .i64 t22_1)]⟩) ∧
            Calls Try.prog 13 ⟨[(.slice b_a b_l b_c)]⟩ w__4 fun e w__5 =>
              ∃ (t27_a : Option Addr) (t27_l : Nat) (t27_c : Nat),
              e = .returned (.slice t27_a t27_l t27_c) ∧
              Calls Try.prog 20 ⟨[(.slice t27_a t27_l t27_c)]⟩ w__5 fun e w__6 =>
                ∃ (t28_0_a : Option Addr) (t28_0_l : Nat) (t28_0_c : Nat) (t28_1 : Bool),
                e = .returned (.tuple ⟨[(.slice t28_0_a t28_0_l t28_0_c), (.bool t28_1)]⟩) ∧
                Calls Try.prog 13 ⟨[(.slice b_a b_l b_c)]⟩ w__6 fun e w__7 =>
                  ∃ (t33_a : Option Addr) (t33_l : Nat) (t33_c : Nat),
                  e = .returned (.slice t33_a t33_l t33_c) ∧
                  Calls Try.prog 21 ⟨[(.slice t33_a t33_l t33_c)]⟩ w__7 fun e w__8 =>
                    ∃ (t34_0_a : Option Addr) (t34_0_l : Nat) (t34_0_c : Nat) (t34_1 : Bool),
                    e = .returned (.tuple ⟨[(.slice t34_0_a t34_0_l t34_0_c), (.bool t34_1)]⟩) ∧
                    cond t12 (
                      ∃ (t40 : ByteArray) (w__9 : World),
                      (convert 22 9 (.slice t16_0_a t16_0_l t16_0_c)).run Try.prog w__8 = .ok (.string t40) w__9 ∧
                      ∃ (t42 : ByteArray) (w__10 : World),
                      (convert 22 9 (.slice t22_0_a t22_0_l t22_0_c)).run Try.prog w__9 = .ok (.string t42) w__10 ∧
                      cond (decide ((t40 : ByteArray) = t42)) (
                        cond (decide ((t16_1 : Int) = t22_1)) (
                          ∃ (t52 : ByteArray) (w__11 : World),
                          (convert 22 9 (.slice t28_0_a t28_0_l t28_0_c)).run Try.prog w__10 = .ok (.string t52) w__11 ∧
                          ∃ (t54 : ByteArray) (w__12 : World),
                          (convert 22 9 (.slice t34_0_a t34_0_l t34_0_c)).run Try.prog w__11 = .ok (.string t54) w__12 ∧
                          cond (decide ((t52 : ByteArray) = t54)) (
                            R (.bool (t28_1 == t34_1)) w__12
                          ) (
                            R (.bool false) w__12
                          )
                        ) (
                          R (.bool false) w__10
                        )
                      ) (
                        R (.bool false) w__10
                      )
                    ) (
                      R (.bool false) w__8
                    )

theorem S8_eq (b_a : Option Addr) (b_l : Nat) (b_c : Nat) (w : World) (R : Value → World → Prop) : Eng.R Try.prog ⟨cal, S8_nx⟩ 62 S8_ann [] (Try.f8.body.getD .skip) (bodyQ Try.prog #[.tmp 2] R) (argE [(.slice b_a b_l b_c)]) w = S8 b_a b_l b_c w R := by kernel_rfl
/-- A call of 'carfax/carfaxlaw02.CheckFrames', by its condition. -/
theorem S8_calls {b_a : Option Addr} {b_l : Nat} {b_c : Nat} {w : World} {R : Value → World → Prop} (hS : S8 b_a b_l b_c w R) : Ret Try.prog 8 [(.slice b_a b_l b_c)] w R :=
  R_calls (C := ⟨cal, S8_nx⟩) cal_ok follows Try.func8 (c := Try.f8.body.getD .skip) (res := #[.tmp 2]) (n := 62) (by kernel_rfl) (by kernel_rfl) (by kernel_rfl) (by kernel_rfl) ((S8_eq b_a b_l b_c w R).mpr hS)

def S9_ann (p : List Nat) : Option LA :=
  none

def S9_nx (t : Nat) : Option (TypeId × TypeId) := none

def S9_k2 (cut : Int) (head : Bool) (y_a : Option Addr) (y_l : Nat) (y_c : Nat) (f_a : Option Addr) (f_l : Nat) (f_c : Nat) (w : World) (R : Value → World → Prop) : Prop :=
  (((f_l : Nat) : Int) : Int) ≠ 0 ∧
  0 ≤ ((Int.tmod (IntKind.i64.wrap cut) ((f_l : Nat) : Int)) : Int) ∧
  ((Int.tmod (IntKind.i64.wrap cut) ((f_l : Nat) : Int)) : Int) ≤ ((f_c : Nat) : Int) ∧
  Calls Try.prog 20 ⟨[(.slice (slAddr f_a f_c 0 1) ((Int.toNat (Int.tmod (IntKind.i64.wrap cut) ((f_l : Nat) : Int))) - 0) (f_c - 0))]⟩ w fun e w_ =>
    ∃ (t67_0_a : Option Addr) (t67_0_l : Nat) (t67_0_c : Nat) (t67_1 : Bool),
    e = .returned (.tuple ⟨[(.slice t67_0_a t67_0_l t67_0_c), (.bool t67_1)]⟩) ∧
    Calls Try.prog 20 ⟨[(.slice y_a y_l y_c)]⟩ w_ fun e w__1 =>
      ∃ (t72_0_a : Option Addr) (t72_0_l : Nat) (t72_0_c : Nat) (t72_1 : Bool),
      e = .returned (.tuple ⟨[(.slice t72_0_a t72_0_l t72_0_c), (.bool t72_1)]⟩) ∧
      Calls Try.prog 18 ⟨[(.slice t72_0_a t72_0_l t72_0_c)]⟩ w__1 fun e w__2 =>
        ∃ (t77_0_a : Option Addr) (t77_0_l : Nat) (t77_0_c : Nat) (t77_1 : Int),
        e = .returned (.tuple ⟨[(.slice t77_0_a t77_0_l t77_0_c), (.int .i64 t77_1)]⟩) ∧
        cond head (
          cond (!t67_1) (
            cond t72_1 (
              ∃ (t89 : ByteArray) (w__3 : World),
              (convert 22 9 (.slice t77_0_a t77_0_l t77_0_c)).run Try.prog w__2 = .ok (.string t89) w__3 ∧
              ∃ (t91 : ByteArray) (w__4 : World),
              (convert 22 9 (.slice y_a y_l y_c)).run Try.prog w__3 = .ok (.string t91) w__4 ∧
              cond (decide ((t89 : ByteArray) = t91)) (
                R (.bool true) w__4
              ) (
                cond (!t72_1) (
                  R (.bool (decide ((((t72_0_l : Nat) : Int) : Int) = 0))) w__4
                ) (
                  R (.bool false) w__4
                )
              )
            ) (
              cond (!t72_1) (
                R (.bool (decide ((((t72_0_l : Nat) : Int) : Int) = 0))) w__2
              ) (
                R (.bool false) w__2
              )
            )
          ) (
            R (.bool false) w__2
          )
        ) (
          R (.bool false) w__2
        )

def S9_k1 (cut : Int) (head : Bool) (y_a : Option Addr) (y_l : Nat) (y_c : Nat) (f_a : Option Addr) (f_l : Nat) (f_c : Nat) (t58 : Bool) (w : World) (R : Value → World → Prop) : Prop :=
  cond t58 (
    R (.bool false) w
  ) (
    S9_k2 cut head y_a y_l y_c f_a f_l f_c w R
  )

def S9_k0 (cut : Int) (head : Bool) (x_a : Option Addr) (x_l : Nat) (x_c : Nat) (y_a : Option Addr) (y_l : Nat) (y_c : Nat) (w : World) (R : Value → World → Prop) : Prop :=
  Calls Try.prog 18 ⟨[(.slice x_a x_l x_c)]⟩ w fun e w_ =>
    ∃ (t33_0_a : Option Addr) (t33_0_l : Nat) (t33_0_c : Nat) (t33_1 : Int),
    e = .returned (.tuple ⟨[(.slice t33_0_a t33_0_l t33_0_c), (.int .i64 t33_1)]⟩) ∧
    Calls Try.prog 20 ⟨[(.slice t33_0_a t33_0_l t33_0_c)]⟩ w_ fun e w__1 =>
      ∃ (t38_0_a : Option Addr) (t38_0_l : Nat) (t38_0_c : Nat) (t38_1 : Bool),
      e = .returned (.tuple ⟨[(.slice t38_0_a t38_0_l t38_0_c), (.bool t38_1)]⟩) ∧
      cond (!decide ((t33_1 : Int) = 0)) (
        S9_k1 cut head y_a y_l y_c t33_0_a t33_0_l t33_0_c true w__1 R
      ) (
        cond (!t38_1) (
          S9_k1 cut head y_a y_l y_c t33_0_a t33_0_l t33_0_c true w__1 R
        ) (
          ∃ (t49 : ByteArray) (w__2 : World),
          (convert 22 9 (.slice t38_0_a t38_0_l t38_0_c)).run Try.prog w__1 = .ok (.string t49) w__2 ∧
          ∃ (t51 : ByteArray) (w__3 : World),
          (convert 22 9 (.slice x_a x_l x_c)).run Try.prog w__2 = .ok (.string t51) w__3 ∧
          cond (!decide ((t49 : ByteArray) = t51)) (
            S9_k1 cut head y_a y_l y_c t33_0_a t33_0_l t33_0_c true w__3 R
          ) (
            S9_k1 cut head y_a y_l y_c t33_0_a t33_0_l t33_0_c (decide ((((t33_0_l : Nat) : Int) : Int) = 0)) w__3 R
          )
        )
      )

def S9 (b_a : Option Addr) (b_l : Nat) (b_c : Nat) (c_a : Option Addr) (c_l : Nat) (c_c : Nat) (cut : Int) (w : World) (R : Value → World → Prop) : Prop :=
  Calls Try.prog 11 ⟨[]⟩ w fun e w_ =>
    ∃ (t20 : Bool),
    e = .returned (.bool t20) ∧
    0 ≤ ((if 1000 < ((b_l : Nat) : Int) then 1000 else ((b_l : Nat) : Int)) : Int) ∧
    ((if 1000 < ((b_l : Nat) : Int) then 1000 else ((b_l : Nat) : Int)) : Int) ≤ ((b_c : Nat) : Int) ∧
    0 ≤ ((if 1000 < ((c_l : Nat) : Int) then 1000 else ((c_l : Nat) : Int)) : Int) ∧
    ((if 1000 < ((c_l : Nat) : Int) then 1000 else ((c_l : Nat) : Int)) : Int) ≤ ((c_c : Nat) : Int) ∧
    S9_k0 cut t20 (slAddr b_a b_c 0 1) ((Int.toNat (if 1000 < ((b_l : Nat) : Int) then 1000 else ((b_l : Nat) : Int))) - 0) (b_c - 0) (slAddr c_a c_c 0 1) ((Int.toNat (if 1000 < ((c_l : Nat) : Int) then 1000 else ((c_l : Nat) : Int))) - 0) (c_c - 0) w_.drew R

theorem S9_eq (b_a : Option Addr) (b_l : Nat) (b_c : Nat) (c_a : Option Addr) (c_l : Nat) (c_c : Nat) (cut : Int) (w : World) (R : Value → World → Prop) : Eng.R Try.prog ⟨cal, S9_nx⟩ 104 S9_ann [] (Try.f9.body.getD .skip) (bodyQ Try.prog #[.tmp 6] R) (argE [(.slice b_a b_l b_c), (.slice c_a c_l c_c), (.int .u16 cut)]) w = S9 b_a b_l b_c c_a c_l c_c cut w R := by kernel_rfl
/-- A call of 'carfax/carfaxlaw02.CheckBack', by its condition. -/
theorem S9_calls {b_a : Option Addr} {b_l : Nat} {b_c : Nat} {c_a : Option Addr} {c_l : Nat} {c_c : Nat} {cut : Int} {w : World} {R : Value → World → Prop} (hS : S9 b_a b_l b_c c_a c_l c_c cut w R) : Ret Try.prog 9 [(.slice b_a b_l b_c), (.slice c_a c_l c_c), (.int .u16 cut)] w R :=
  R_calls (C := ⟨cal, S9_nx⟩) cal_ok follows Try.func9 (c := Try.f9.body.getD .skip) (res := #[.tmp 6]) (n := 104) (by kernel_rfl) (by kernel_rfl) (by kernel_rfl) (by kernel_rfl) ((S9_eq b_a b_l b_c c_a c_l c_c cut w R).mpr hS)

def S10_ann (p : List Nat) : Option LA := match p with
  | [0, 1, 0, 1, 1, 1, 1, 1, 1, 1] => some ⟨[2, 7, 8, 9, 11], [(12, .one .bool), (13, .one (.int .i64))]⟩
  | _ => none

def S10_nx (t : Nat) : Option (TypeId × TypeId) := none

def S10_k4 (bits : Int) (head : Bool) (x_a : Option Addr) (x_l : Nat) (x_c : Nat) (f_a : Option Addr) (f_l : Nat) (f_c : Nat) (first : Int) (turned : Bool) (k : Int) (w : World) (R : Value → World → Prop) (B1 : (Bool) × (Int) × Unit → World → Prop) : Prop :=
  0 ≤ (k : Int) ∧
  (2 : Int) ≠ 0 ∧
  cond (decide (((Int.tmod (Int.fdiv bits (2 ^ (min (Int.toNat k) (IntKind.u16.bits)))) 2) : Int) = 1)) (
    (8 : Int) ≠ 0 ∧
    ∃ (t67 : Addr),
    f_a = some t67 ∧
    0 ≤ ((IntKind.i64.wrap (Int.tdiv (IntKind.i64.wrap (first + k)) 8)) : Int) ∧
    ((IntKind.i64.wrap (Int.tdiv (IntKind.i64.wrap (first + k)) 8)) : Int) < ((f_l : Nat) : Int) ∧
    (8 : Int) ≠ 0 ∧
    0 ≤ ((Int.tmod (IntKind.i64.wrap (first + k)) 8) : Int) ∧
    ∃ (t68 : Int),
    w.drew.cell? (t67.add (Int.toNat (IntKind.i64.wrap (Int.tdiv (IntKind.i64.wrap (first + k)) 8)) * 1)) = some (.int .u8 t68) ∧
    ∃ (t75 : Addr),
    f_a = some t75 ∧
    0 ≤ ((IntKind.i64.wrap (Int.tdiv (IntKind.i64.wrap (first + k)) 8)) : Int) ∧
    ((IntKind.i64.wrap (Int.tdiv (IntKind.i64.wrap (first + k)) 8)) : Int) < ((f_l : Nat) : Int) ∧
    (∃ u, w.drew.cell? (t75.add (Int.toNat (IntKind.i64.wrap (Int.tdiv (IntKind.i64.wrap (first + k)) 8)) * 1)) = some u) ∧
    w.drew.frozen? (t75.add (Int.toNat (IntKind.i64.wrap (Int.tdiv (IntKind.i64.wrap (first + k)) 8)) * 1)) = false ∧
    B1 (true, (IntKind.i64.wrap (k + 1)), ()) (w.drew.setCell (t75.add (Int.toNat (IntKind.i64.wrap (Int.tdiv (IntKind.i64.wrap (first + k)) 8)) * 1)) (.int .u8 (bitsI .xor .u8 t68 (Int.fdiv 128 (2 ^ (min (Int.toNat (Int.tmod (IntKind.i64.wrap (first + k)) 8)) (IntKind.u8.bits)))))))
  ) (
    B1 (turned, (IntKind.i64.wrap (k + 1)), ()) w
  )

def S10_k5 (head : Bool) (x_a : Option Addr) (x_l : Nat) (x_c : Nat) (f_a : Option Addr) (f_l : Nat) (f_c : Nat) (turned : Bool) (w : World) (R : Value → World → Prop) : Prop :=
  Calls Try.prog 20 ⟨[(.slice f_a f_l f_c)]⟩ w fun e w_ =>
    ∃ (t78_0_a : Option Addr) (t78_0_l : Nat) (t78_0_c : Nat) (t78_1 : Bool),
    e = .returned (.tuple ⟨[(.slice t78_0_a t78_0_l t78_0_c), (.bool t78_1)]⟩) ∧
    cond head (
      cond (!(t78_1 == turned)) (
        cond turned (
          R (.bool true) w_
        ) (
          ∃ (t91 : ByteArray) (w__1 : World),
          (convert 22 9 (.slice t78_0_a t78_0_l t78_0_c)).run Try.prog w_ = .ok (.string t91) w__1 ∧
          ∃ (t93 : ByteArray) (w__2 : World),
          (convert 22 9 (.slice x_a x_l x_c)).run Try.prog w__1 = .ok (.string t93) w__2 ∧
          R (.bool (decide ((t91 : ByteArray) = t93))) w__2
        )
      ) (
        R (.bool false) w_
      )
    ) (
      R (.bool false) w_
    )

def S10_k3 (bits : Int) (head : Bool) (x_a : Option Addr) (x_l : Nat) (x_c : Nat) (f_a : Option Addr) (f_l : Nat) (f_c : Nat) (first : Int) (turned : Bool) (k : Int) (t54 : Bool) (w : World) (R : Value → World → Prop) (B1 : (Bool) × (Int) × Unit → World → Prop) : Prop :=
  cond t54 (
    S10_k4 bits head x_a x_l x_c f_a f_l f_c first turned k w R B1
  ) (
    S10_k5 head x_a x_l x_c f_a f_l f_c turned w R
  )

def S10_L2 (bits : Int) (head : Bool) (x_a : Option Addr) (x_l : Nat) (x_c : Nat) (f_a : Option Addr) (f_l : Nat) (f_c : Nat) (first : Int) (turned : Bool) (k : Int) (w : World) (R : Value → World → Prop) (B1 : (Bool) × (Int) × Unit → World → Prop) : Prop :=
  cond (decide ((k : Int) < 16)) (
    S10_k3 bits head x_a x_l x_c f_a f_l f_c first turned k (decide (((IntKind.i64.wrap (first + k)) : Int) < (IntKind.i64.wrap (8 * ((f_l : Nat) : Int))))) w R B1
  ) (
    S10_k3 bits head x_a x_l x_c f_a f_l f_c first turned k false w R B1
  )

def S10_k1 (at_ : Int) (bits : Int) (head : Bool) (x_a : Option Addr) (x_l : Nat) (x_c : Nat) (f_a : Option Addr) (f_l : Nat) (f_c : Nat) (w : World) (R : Value → World → Prop) : Prop :=
  ((IntKind.u64.wrap (IntKind.i64.wrap (8 * ((f_l : Nat) : Int)))) : Int) ≠ 0 ∧
  ∃ (I : (Bool) × (Int) × Unit → World → Prop) (μ : (Bool) × (Int) × Unit → World → Nat),
  I (false, 0, ()) w ∧
  ∀ (J : Env) (s : (Bool) × (Int) × Unit) (w' : World), I s w' →
    S10_L2 bits head x_a x_l x_c f_a f_l f_c (IntKind.i64.wrap (Int.tmod at_ (IntKind.u64.wrap (IntKind.i64.wrap (8 * ((f_l : Nat) : Int)))))) s.1 s.2.1 w' R (fun s' w'' => I s' w'' ∧ μ s' w'' < μ s w')

def S10_k0 (at_ : Int) (bits : Int) (head : Bool) (x_a : Option Addr) (x_l : Nat) (x_c : Nat) (f_a : Option Addr) (f_l : Nat) (f_c : Nat) (t36 : Bool) (w : World) (R : Value → World → Prop) : Prop :=
  cond t36 (
    R (.bool false) w
  ) (
    S10_k1 at_ bits head x_a x_l x_c f_a f_l f_c w R
  )

def S10 (b_a : Option Addr) (b_l : Nat) (b_c : Nat) (at_ : Int) (bits : Int) (w : World) (R : Value → World → Prop) : Prop :=
  Calls Try.prog 11 ⟨[]⟩ w fun e w_ =>
    ∃ (t16 : Bool),
    e = .returned (.bool t16) ∧
    0 ≤ ((if 1000 < ((b_l : Nat) : Int) then 1000 else ((b_l : Nat) : Int)) : Int) ∧
    ((if 1000 < ((b_l : Nat) : Int) then 1000 else ((b_l : Nat) : Int)) : Int) ≤ ((b_c : Nat) : Int) ∧
    Calls Try.prog 18 ⟨[(.slice (slAddr b_a b_c 0 1) ((Int.toNat (if 1000 < ((b_l : Nat) : Int) then 1000 else ((b_l : Nat) : Int))) - 0) (b_c - 0))]⟩ w_ fun e w__1 =>
      ∃ (t24_0_a : Option Addr) (t24_0_l : Nat) (t24_0_c : Nat) (t24_1 : Int),
      e = .returned (.tuple ⟨[(.slice t24_0_a t24_0_l t24_0_c), (.int .i64 t24_1)]⟩) ∧
      cond (!decide ((t24_1 : Int) = 0)) (
        S10_k0 at_ bits t16 (slAddr b_a b_c 0 1) ((Int.toNat (if 1000 < ((b_l : Nat) : Int) then 1000 else ((b_l : Nat) : Int))) - 0) (b_c - 0) t24_0_a t24_0_l t24_0_c true w__1 R
      ) (
        S10_k0 at_ bits t16 (slAddr b_a b_c 0 1) ((Int.toNat (if 1000 < ((b_l : Nat) : Int) then 1000 else ((b_l : Nat) : Int))) - 0) (b_c - 0) t24_0_a t24_0_l t24_0_c (!decide ((((t24_0_l : Nat) : Int) : Int) = (IntKind.i64.wrap (((((Int.toNat (if 1000 < ((b_l : Nat) : Int) then 1000 else ((b_l : Nat) : Int))) - 0) : Nat) : Int) + 4)))) w__1 R
      )

theorem S10_eq (b_a : Option Addr) (b_l : Nat) (b_c : Nat) (at_ : Int) (bits : Int) (w : World) (R : Value → World → Prop) : Eng.R Try.prog ⟨cal, S10_nx⟩ 97 S10_ann [] (Try.f10.body.getD .skip) (bodyQ Try.prog #[.tmp 6] R) (argE [(.slice b_a b_l b_c), (.int .u64 at_), (.int .u16 bits)]) w = S10 b_a b_l b_c at_ bits w R := by kernel_rfl
/-- A call of 'carfax/carfaxlaw02.CheckTells', by its condition. -/
theorem S10_calls {b_a : Option Addr} {b_l : Nat} {b_c : Nat} {at_ : Int} {bits : Int} {w : World} {R : Value → World → Prop} (hS : S10 b_a b_l b_c at_ bits w R) : Ret Try.prog 10 [(.slice b_a b_l b_c), (.int .u64 at_), (.int .u16 bits)] w R :=
  R_calls (C := ⟨cal, S10_nx⟩) cal_ok follows Try.func10 (c := Try.f10.body.getD .skip) (res := #[.tmp 6]) (n := 97) (by kernel_rfl) (by kernel_rfl) (by kernel_rfl) (by kernel_rfl) ((S10_eq b_a b_l b_c at_ bits w R).mpr hS)

def S11_ann (p : List Nat) : Option LA :=
  none

def S11_nx (t : Nat) : Option (TypeId × TypeId) := none

def S11 (w : World) (R : Value → World → Prop) : Prop :=
  Calls Try.prog 18 ⟨[(.slice none 0 0)]⟩ w fun e w_ =>
    ∃ (t6_0_a : Option Addr) (t6_0_l : Nat) (t6_0_c : Nat) (t6_1 : Int),
    e = .returned (.tuple ⟨[(.slice t6_0_a t6_0_l t6_0_c), (.int .i64 t6_1)]⟩) ∧
    Calls Try.prog 15 ⟨[(.slice (some ⟨w_.heap.size, 0, none⟩) 5 5)]⟩ (w_.alloc (.cells ⟨[(.int .u8 0), (.int .u8 0), (.int .u8 29), (.int .u8 15), (.int .u8 0)]⟩ 5)) fun e w__1 =>
      ∃ (t11_0_a : Option Addr) (t11_0_l : Nat) (t11_0_c : Nat) (t11_1 : Int),
      e = .returned (.tuple ⟨[(.slice t11_0_a t11_0_l t11_0_c), (.int .i64 t11_1)]⟩) ∧
      ∃ (t15_a : Option Addr) (t15_l : Nat) (t15_c : Nat) (w__2 : World),
      (convert 22 22 (.slice (some ⟨w__1.heap.size, 0, none⟩) 9 9)).run Try.prog (w__1.alloc (.cells ⟨[(.int .u8 49), (.int .u8 50), (.int .u8 51), (.int .u8 52), (.int .u8 53), (.int .u8 54), (.int .u8 55), (.int .u8 56), (.int .u8 57)]⟩ 5)) = .ok (.slice t15_a t15_l t15_c) w__2 ∧
      Calls Try.prog 12 ⟨[(.slice t15_a t15_l t15_c)]⟩ w__2 fun e w__3 =>
        ∃ (t16 : Int),
        e = .returned (.int .u16 t16) ∧
        cond (decide ((t16 : Int) = 10673)) (
          cond (decide ((t6_1 : Int) = 0)) (
            ∃ (t24 : ByteArray) (w__4 : World),
            (convert 22 9 (.slice t6_0_a t6_0_l t6_0_c)).run Try.prog w__3 = .ok (.string t24) w__4 ∧
            cond (decide ((t24 : ByteArray) = (⟨#[0, 0, 29, 15]⟩ : ByteArray))) (
              cond (decide ((((t11_0_l : Nat) : Int) : Int) = 1)) (
                R (.bool (decide ((t11_1 : Int) = 4))) w__4
              ) (
                R (.bool false) w__4
              )
            ) (
              R (.bool false) w__4
            )
          ) (
            R (.bool false) w__3
          )
        ) (
          R (.bool false) w__3
        )

theorem S11_eq (w : World) (R : Value → World → Prop) : Eng.R Try.prog ⟨cal, S11_nx⟩ 36 S11_ann [] (Try.f11.body.getD .skip) (bodyQ Try.prog #[.tmp 0] R) (argE []) w = S11  w R := by kernel_rfl
/-- A call of 'carfax/carfaxlaw02.shown', by its condition. -/
theorem S11_calls {w : World} {R : Value → World → Prop} (hS : S11  w R) : Ret Try.prog 11 [] w R :=
  R_calls (C := ⟨cal, S11_nx⟩) cal_ok follows Try.func11 (c := Try.f11.body.getD .skip) (res := #[.tmp 0]) (n := 36) (by kernel_rfl) (by kernel_rfl) (by kernel_rfl) (by kernel_rfl) ((S11_eq  w R).mpr hS)

def S12_ann (p : List Nat) : Option LA := match p with
  | [0, 1, 0, 1, 1] => some ⟨[7, 8], [(3, .one (.int .u16)), (9, .one (.int .i64))]⟩
  | _ => none

def S12_nx (t : Nat) : Option (TypeId × TypeId) := none

def S12_k1 (r : Int) (t7_a : Option Addr) (t7_l : Nat) (t7_c : Nat) (t8 : Int) (t9 : Int) (w : World) (R : Value → World → Prop) (B1 : (Int) × (Int) × Unit → World → Prop) : Prop :=
  ∃ (t11 : Addr),
  t7_a = some t11 ∧
  0 ≤ (t9 : Int) ∧
  (t9 : Int) < ((t7_l : Nat) : Int) ∧
  ∃ (t12 : Int),
  w.cell? (t11.add (Int.toNat t9 * 1)) = some (.int .u8 t12) ∧
  0 ≤ (8 : Int) ∧
  0 ≤ (4 : Int) ∧
  0 ≤ (8 : Int) ∧
  0 ≤ (12 : Int) ∧
  0 ≤ (5 : Int) ∧
  B1 ((bitsI .xor .u16 (bitsI .xor .u16 (bitsI .xor .u16 (IntKind.u16.wrap (r * 2 ^ (min (Int.toNat 8) (IntKind.u16.bits)))) (IntKind.u16.wrap ((IntKind.u16.wrap (bitsI .xor .u8 (bitsI .xor .u8 (IntKind.u8.wrap (Int.fdiv r (2 ^ (min (Int.toNat 8) (IntKind.u16.bits))))) t12) (Int.fdiv (bitsI .xor .u8 (IntKind.u8.wrap (Int.fdiv r (2 ^ (min (Int.toNat 8) (IntKind.u16.bits))))) t12) (2 ^ (min (Int.toNat 4) (IntKind.u8.bits)))))) * 2 ^ (min (Int.toNat 12) (IntKind.u16.bits))))) (IntKind.u16.wrap ((IntKind.u16.wrap (bitsI .xor .u8 (bitsI .xor .u8 (IntKind.u8.wrap (Int.fdiv r (2 ^ (min (Int.toNat 8) (IntKind.u16.bits))))) t12) (Int.fdiv (bitsI .xor .u8 (IntKind.u8.wrap (Int.fdiv r (2 ^ (min (Int.toNat 8) (IntKind.u16.bits))))) t12) (2 ^ (min (Int.toNat 4) (IntKind.u8.bits)))))) * 2 ^ (min (Int.toNat 5) (IntKind.u16.bits))))) (IntKind.u16.wrap (bitsI .xor .u8 (bitsI .xor .u8 (IntKind.u8.wrap (Int.fdiv r (2 ^ (min (Int.toNat 8) (IntKind.u16.bits))))) t12) (Int.fdiv (bitsI .xor .u8 (IntKind.u8.wrap (Int.fdiv r (2 ^ (min (Int.toNat 8) (IntKind.u16.bits))))) t12) (2 ^ (min (Int.toNat 4) (IntKind.u8.bits))))))), (IntKind.i64.wrap (t9 + 1)), ()) w

def S12_L0 (r : Int) (t7_a : Option Addr) (t7_l : Nat) (t7_c : Nat) (t8 : Int) (t9 : Int) (w : World) (R : Value → World → Prop) (B1 : (Int) × (Int) × Unit → World → Prop) : Prop :=
  cond (decide ((t9 : Int) < t8)) (
    S12_k1 r t7_a t7_l t7_c t8 t9 w R B1
  ) (
    R (.int .u16 r) w
  )

def S12 (b_a : Option Addr) (b_l : Nat) (b_c : Nat) (w : World) (R : Value → World → Prop) : Prop :=
  ∃ (I : (Int) × (Int) × Unit → World → Prop) (μ : (Int) × (Int) × Unit → World → Nat),
  I (65535, 0, ()) w ∧
  ∀ (J : Env) (s : (Int) × (Int) × Unit) (w' : World), I s w' →
    S12_L0 s.1 b_a b_l b_c ((b_l : Nat) : Int) s.2.1 w' R (fun s' w'' => I s' w'' ∧ μ s' w'' < μ s w')

theorem S12_eq (b_a : Option Addr) (b_l : Nat) (b_c : Nat) (w : World) (R : Value → World → Prop) : Eng.R Try.prog ⟨cal, S12_nx⟩ 37 S12_ann [] (Try.f12.body.getD .skip) (bodyQ Try.prog #[.tmp 2] R) (argE [(.slice b_a b_l b_c)]) w = S12 b_a b_l b_c w R := by kernel_rfl
/-- A call of 'carfax/check.Sum', by its condition. -/
theorem S12_calls {b_a : Option Addr} {b_l : Nat} {b_c : Nat} {w : World} {R : Value → World → Prop} (hS : S12 b_a b_l b_c w R) : Ret Try.prog 12 [(.slice b_a b_l b_c)] w R :=
  R_calls (C := ⟨cal, S12_nx⟩) cal_ok follows Try.func12 (c := Try.f12.body.getD .skip) (res := #[.tmp 2]) (n := 37) (by kernel_rfl) (by kernel_rfl) (by kernel_rfl) (by kernel_rfl) ((S12_eq b_a b_l b_c w R).mpr hS)

def S13_ann (p : List Nat) : Option LA :=
  none

def S13_nx (t : Nat) : Option (TypeId × TypeId) := none

def S13 (b_a : Option Addr) (b_l : Nat) (b_c : Nat) (w : World) (R : Value → World → Prop) : Prop :=
  0 ≤ ((if 20000 < ((b_l : Nat) : Int) then 20000 else ((b_l : Nat) : Int)) : Int) ∧
  ((if 20000 < ((b_l : Nat) : Int) then 20000 else ((b_l : Nat) : Int)) : Int) ≤ ((b_c : Nat) : Int) ∧
  R (.slice (slAddr b_a b_c 0 1) ((Int.toNat (if 20000 < ((b_l : Nat) : Int) then 20000 else ((b_l : Nat) : Int))) - 0) (b_c - 0)) w

theorem S13_eq (b_a : Option Addr) (b_l : Nat) (b_c : Nat) (w : World) (R : Value → World → Prop) : Eng.R Try.prog ⟨cal, S13_nx⟩ 8 S13_ann [] (Try.f13.body.getD .skip) (bodyQ Try.prog #[.tmp 2] R) (argE [(.slice b_a b_l b_c)]) w = S13 b_a b_l b_c w R := by kernel_rfl
/-- A call of 'carfax/carfaxlaw02.few', by its condition. -/
theorem S13_calls {b_a : Option Addr} {b_l : Nat} {b_c : Nat} {w : World} {R : Value → World → Prop} (hS : S13 b_a b_l b_c w R) : Ret Try.prog 13 [(.slice b_a b_l b_c)] w R :=
  R_calls (C := ⟨cal, S13_nx⟩) cal_ok follows Try.func13 (c := Try.f13.body.getD .skip) (res := #[.tmp 2]) (n := 8) (by kernel_rfl) (by kernel_rfl) (by kernel_rfl) (by kernel_rfl) ((S13_eq b_a b_l b_c w R).mpr hS)

def S14_ann (p : List Nat) : Option LA := match p with
  | [0, 1, 0, 1, 1] => some ⟨[0], [(3, .one (.int .u16)), (4, .one (.int .i64))]⟩
  | [0, 1, 1, 0, 0, 1, 0, 0, 1, 0, 1, 1] => some ⟨[0, 4], [(3, .one (.int .u16)), (5, .one (.int .i64))]⟩
  | _ => none

def S14_nx (t : Nat) : Option (TypeId × TypeId) := none

def S14_k3 (b_a : Option Addr) (b_l : Nat) (b_c : Nat) (r : Int) (i : Int) (k : Int) (w : World) (R : Value → World → Prop) (B1 : (Int) × (Int) × Unit → World → Prop) (B2 : (Int) × (Int) × Unit → World → Prop) : Prop :=
  (32768 : Int) ≠ 0 ∧
  cond (decide (((IntKind.u16.wrap (Int.tdiv r 32768)) : Int) = 1)) (
    B2 ((bitsI .xor .u16 (IntKind.u16.wrap (r * 2)) 4129), (IntKind.i64.wrap (k + 1)), ()) w
  ) (
    B2 ((IntKind.u16.wrap (r * 2)), (IntKind.i64.wrap (k + 1)), ()) w
  )

def S14_L2 (b_a : Option Addr) (b_l : Nat) (b_c : Nat) (r : Int) (i : Int) (k : Int) (w : World) (R : Value → World → Prop) (B1 : (Int) × (Int) × Unit → World → Prop) (B2 : (Int) × (Int) × Unit → World → Prop) : Prop :=
  cond (decide ((k : Int) < 8)) (
    S14_k3 b_a b_l b_c r i k w R B1 B2
  ) (
    B1 (r, (IntKind.i64.wrap (i + 1)), ()) w
  )

def S14_k1 (b_a : Option Addr) (b_l : Nat) (b_c : Nat) (r : Int) (i : Int) (w : World) (R : Value → World → Prop) (B1 : (Int) × (Int) × Unit → World → Prop) : Prop :=
  ∃ (t16 : Addr),
  b_a = some t16 ∧
  0 ≤ (i : Int) ∧
  (i : Int) < ((b_l : Nat) : Int) ∧
  ∃ (t17 : Int),
  w.cell? (t16.add (Int.toNat i * 1)) = some (.int .u8 t17) ∧
  ∃ (I : (Int) × (Int) × Unit → World → Prop) (μ : (Int) × (Int) × Unit → World → Nat),
  I ((bitsI .xor .u16 r (IntKind.u16.wrap ((IntKind.u16.wrap t17) * 256))), 0, ()) w ∧
  ∀ (J : Env) (s : (Int) × (Int) × Unit) (w' : World), I s w' →
    S14_L2 b_a b_l b_c s.1 i s.2.1 w' R B1 (fun s' w'' => I s' w'' ∧ μ s' w'' < μ s w')

def S14_L0 (b_a : Option Addr) (b_l : Nat) (b_c : Nat) (r : Int) (i : Int) (w : World) (R : Value → World → Prop) (B1 : (Int) × (Int) × Unit → World → Prop) : Prop :=
  cond (decide ((i : Int) < ((b_l : Nat) : Int))) (
    S14_k1 b_a b_l b_c r i w R B1
  ) (
    R (.int .u16 r) w
  )

def S14 (b_a : Option Addr) (b_l : Nat) (b_c : Nat) (w : World) (R : Value → World → Prop) : Prop :=
  ∃ (I : (Int) × (Int) × Unit → World → Prop) (μ : (Int) × (Int) × Unit → World → Nat),
  I (65535, 0, ()) w ∧
  ∀ (J : Env) (s : (Int) × (Int) × Unit) (w' : World), I s w' →
    S14_L0 b_a b_l b_c s.1 s.2.1 w' R (fun s' w'' => I s' w'' ∧ μ s' w'' < μ s w')

theorem S14_eq (b_a : Option Addr) (b_l : Nat) (b_c : Nat) (w : World) (R : Value → World → Prop) : Eng.R Try.prog ⟨cal, S14_nx⟩ 34 S14_ann [] (Try.f14.body.getD .skip) (bodyQ Try.prog #[.tmp 2] R) (argE [(.slice b_a b_l b_c)]) w = S14 b_a b_l b_c w R := by kernel_rfl
/-- A call of 'carfax/carfaxref02.Sum', by its condition. -/
theorem S14_calls {b_a : Option Addr} {b_l : Nat} {b_c : Nat} {w : World} {R : Value → World → Prop} (hS : S14 b_a b_l b_c w R) : Ret Try.prog 14 [(.slice b_a b_l b_c)] w R :=
  R_calls (C := ⟨cal, S14_nx⟩) cal_ok follows Try.func14 (c := Try.f14.body.getD .skip) (res := #[.tmp 2]) (n := 34) (by kernel_rfl) (by kernel_rfl) (by kernel_rfl) (by kernel_rfl) ((S14_eq b_a b_l b_c w R).mpr hS)

def S15_ann (p : List Nat) : Option LA := match p with
  | [0, 1, 0, 1, 1, 1] => some ⟨[0], [(4, .one .slice), (5, .one .slice), (6, .one (.int .i64))]⟩
  | _ => none

def S15_nx (t : Nat) : Option (TypeId × TypeId) := none

def S15_k1 (b_a : Option Addr) (b_l : Nat) (b_c : Nat) (out_a : Option Addr) (out_l : Nat) (out_c : Nat) (rest_a : Option Addr) (rest_l : Nat) (rest_c : Nat) (n_ : Int) (w : World) (R : Value → World → Prop) (B1 : (Option Addr × Nat × Nat) × (Option Addr × Nat × Nat) × (Int) × Unit → World → Prop) : Prop :=
  0 ≤ ((IntKind.i64.wrap (n_ - 2)) : Int) ∧
  ((IntKind.i64.wrap (n_ - 2)) : Int) ≤ ((rest_c : Nat) : Int) ∧
  0 ≤ ((IntKind.i64.wrap (n_ - 2)) : Int) ∧
  ((IntKind.i64.wrap (n_ - 2)) : Int) ≤ (((Int.toNat (IntKind.i64.wrap (n_ - 2))) : Nat) : Int) ∧
  0 ≤ (2 : Int) ∧
  (2 : Int) ≤ (((Int.toNat (IntKind.i64.wrap (n_ - 2))) : Nat) : Int) ∧
  ∃ (t21_a : Option Addr) (t21_l : Nat) (t21_c : Nat) (w_ : World),
  (Builtin.append_ #[22, 22] 22 ⟨[(.slice none 0 0), (.slice (slAddr rest_a (Int.toNat (IntKind.i64.wrap (n_ - 2))) (Int.toNat 2) 1) ((Int.toNat (IntKind.i64.wrap (n_ - 2))) - (Int.toNat 2)) ((Int.toNat (IntKind.i64.wrap (n_ - 2))) - (Int.toNat 2)))]⟩).run Try.prog w = .ok (.slice t21_a t21_l t21_c) w_ ∧
  ∃ (t23_a : Option Addr) (t23_l : Nat) (t23_c : Nat) (w__1 : World),
  (Builtin.append_ #[28, 28] 28 ⟨[(.slice out_a out_l out_c), (.slice (some ⟨w_.heap.size, 0, none⟩) 1 1)]⟩).run Try.prog (w_.alloc (.cells ⟨[(.slice t21_a t21_l t21_c)]⟩ 22)) = .ok (.slice t23_a t23_l t23_c) w__1 ∧
  0 ≤ (n_ : Int) ∧
  (n_ : Int) ≤ ((rest_l : Nat) : Int) ∧
  Calls Try.prog 22 ⟨[(.slice (slAddr rest_a rest_c (Int.toNat n_) 1) (rest_l - (Int.toNat n_)) (rest_c - (Int.toNat n_)))]⟩ w__1 fun e w__2 =>
    ∃ (t13 : Int),
    e = .returned (.int .i64 t13) ∧
    B1 ((t23_a, t23_l, t23_c), ((slAddr rest_a rest_c (Int.toNat n_) 1), (rest_l - (Int.toNat n_)), (rest_c - (Int.toNat n_))), t13, ()) w__2

def S15_k2 (b_a : Option Addr) (b_l : Nat) (b_c : Nat) (out_a : Option Addr) (out_l : Nat) (out_c : Nat) (rest_a : Option Addr) (rest_l : Nat) (rest_c : Nat) (w : World) (R : Value → World → Prop) : Prop :=
  R (.tuple ⟨[(.slice out_a out_l out_c), (.int .i64 (IntKind.i64.wrap (((b_l : Nat) : Int) - ((rest_l : Nat) : Int))))]⟩) w

def S15_L0 (b_a : Option Addr) (b_l : Nat) (b_c : Nat) (out_a : Option Addr) (out_l : Nat) (out_c : Nat) (rest_a : Option Addr) (rest_l : Nat) (rest_c : Nat) (n_ : Int) (w : World) (R : Value → World → Prop) (B1 : (Option Addr × Nat × Nat) × (Option Addr × Nat × Nat) × (Int) × Unit → World → Prop) : Prop :=
  cond (decide ((0 : Int) < n_)) (
    S15_k1 b_a b_l b_c out_a out_l out_c rest_a rest_l rest_c n_ w R B1
  ) (
    S15_k2 b_a b_l b_c out_a out_l out_c rest_a rest_l rest_c w R
  )

def S15 (b_a : Option Addr) (b_l : Nat) (b_c : Nat) (w : World) (R : Value → World → Prop) : Prop :=
  Calls Try.prog 22 ⟨[(.slice b_a b_l b_c)]⟩ w fun e w_ =>
    ∃ (t9 : Int),
    e = .returned (.int .i64 t9) ∧
    ∃ (I : (Option Addr × Nat × Nat) × (Option Addr × Nat × Nat) × (Int) × Unit → World → Prop) (μ : (Option Addr × Nat × Nat) × (Option Addr × Nat × Nat) × (Int) × Unit → World → Nat),
    I ((none, 0, 0), (b_a, b_l, b_c), t9, ()) w_ ∧
    ∀ (J : Env) (s : (Option Addr × Nat × Nat) × (Option Addr × Nat × Nat) × (Int) × Unit) (w' : World), I s w' →
      S15_L0 b_a b_l b_c s.1.1 s.1.2.1 s.1.2.2 s.2.1.1 s.2.1.2.1 s.2.1.2.2 s.2.2.1 w' R (fun s' w'' => I s' w'' ∧ μ s' w'' < μ s w')

theorem S15_eq (b_a : Option Addr) (b_l : Nat) (b_c : Nat) (w : World) (R : Value → World → Prop) : Eng.R Try.prog ⟨cal, S15_nx⟩ 33 S15_ann [] (Try.f15.body.getD .skip) (bodyQ Try.prog #[.tmp 2, .tmp 3] R) (argE [(.slice b_a b_l b_c)]) w = S15 b_a b_l b_c w R := by kernel_rfl
/-- A call of 'carfax/check.Scan', by its condition. -/
theorem S15_calls {b_a : Option Addr} {b_l : Nat} {b_c : Nat} {w : World} {R : Value → World → Prop} (hS : S15 b_a b_l b_c w R) : Ret Try.prog 15 [(.slice b_a b_l b_c)] w R :=
  R_calls (C := ⟨cal, S15_nx⟩) cal_ok follows Try.func15 (c := Try.f15.body.getD .skip) (res := #[.tmp 2, .tmp 3]) (n := 33) (by kernel_rfl) (by kernel_rfl) (by kernel_rfl) (by kernel_rfl) ((S15_eq b_a b_l b_c w R).mpr hS)

def S16_ann (p : List Nat) : Option LA := match p with
  | [0, 0, 1, 1, 1] => some ⟨[0], [(4, .one .slice), (5, .one (.int .i64))]⟩
  | _ => none

def S16_nx (t : Nat) : Option (TypeId × TypeId) := none

def S16_k3 (l_a : Option Addr) (l_l : Nat) (l_c : Nat) (at_ : Int) (w : World) (R : Value → World → Prop) : Prop :=
  R (.tuple ⟨[(.slice l_a l_l l_c), (.int .i64 at_)]⟩) w

def S16_k5 (b_a : Option Addr) (b_l : Nat) (b_c : Nat) (l_a : Option Addr) (l_l : Nat) (l_c : Nat) (at_ : Int) (n_ : Int) (x_a : Option Addr) (x_l : Nat) (x_c : Nat) (w : World) (R : Value → World → Prop) (B1 : (Option Addr × Nat × Nat) × (Int) × Unit → World → Prop) : Prop :=
  ∃ (t49_a : Option Addr) (t49_l : Nat) (t49_c : Nat) (w_ : World),
  (Builtin.append_ #[28, 28] 28 ⟨[(.slice l_a l_l l_c), (.slice (some ⟨w.heap.size, 0, none⟩) 1 1)]⟩).run Try.prog (w.alloc (.cells ⟨[(.slice x_a x_l x_c)]⟩ 22)) = .ok (.slice t49_a t49_l t49_c) w_ ∧
  B1 ((t49_a, t49_l, t49_c), (IntKind.i64.wrap (at_ + n_)), ()) w_

def S16_k4 (b_a : Option Addr) (b_l : Nat) (b_c : Nat) (l_a : Option Addr) (l_l : Nat) (l_c : Nat) (at_ : Int) (n_ : Int) (w : World) (R : Value → World → Prop) (B1 : (Option Addr × Nat × Nat) × (Int) × Unit → World → Prop) : Prop :=
  0 ≤ ((IntKind.i64.wrap (at_ + n_)) : Int) ∧
  ((IntKind.i64.wrap (at_ + n_)) : Int) ≤ ((b_c : Nat) : Int) ∧
  0 ≤ (at_ : Int) ∧
  (at_ : Int) ≤ (((Int.toNat (IntKind.i64.wrap (at_ + n_))) : Nat) : Int) ∧
  Calls Try.prog 21 ⟨[(.slice (slAddr b_a b_c (Int.toNat at_) 1) ((Int.toNat (IntKind.i64.wrap (at_ + n_))) - (Int.toNat at_)) (b_c - (Int.toNat at_)))]⟩ w fun e w_ =>
    ∃ (t41_0_a : Option Addr) (t41_0_l : Nat) (t41_0_c : Nat) (t41_1 : Bool),
    e = .returned (.tuple ⟨[(.slice t41_0_a t41_0_l t41_0_c), (.bool t41_1)]⟩) ∧
    cond (!t41_1) (
      S16_k3 l_a l_l l_c at_ w_ R
    ) (
      S16_k5 b_a b_l b_c l_a l_l l_c at_ n_ t41_0_a t41_0_l t41_0_c w_ R B1
    )

def S16_k2 (b_a : Option Addr) (b_l : Nat) (b_c : Nat) (l_a : Option Addr) (l_l : Nat) (l_c : Nat) (at_ : Int) (n_ : Int) (w : World) (R : Value → World → Prop) (B1 : (Option Addr × Nat × Nat) × (Int) × Unit → World → Prop) : Prop :=
  cond (decide (((IntKind.i64.wrap (((b_l : Nat) : Int) - at_)) : Int) < n_)) (
    S16_k3 l_a l_l l_c at_ w R
  ) (
    S16_k4 b_a b_l b_c l_a l_l l_c at_ n_ w R B1
  )

def S16_k1 (b_a : Option Addr) (b_l : Nat) (b_c : Nat) (l_a : Option Addr) (l_l : Nat) (l_c : Nat) (at_ : Int) (w : World) (R : Value → World → Prop) (B1 : (Option Addr × Nat × Nat) × (Int) × Unit → World → Prop) : Prop :=
  ∃ (t16 : Addr),
  b_a = some t16 ∧
  0 ≤ (at_ : Int) ∧
  (at_ : Int) < ((b_l : Nat) : Int) ∧
  ∃ (t23 : Addr),
  b_a = some t23 ∧
  0 ≤ ((IntKind.i64.wrap (at_ + 1)) : Int) ∧
  ((IntKind.i64.wrap (at_ + 1)) : Int) < ((b_l : Nat) : Int) ∧
  (
    ∃ (t17 : Int),
    w.drew.cell? (t16.add (Int.toNat at_ * 1)) = some (.int .u8 t17) ∧
    ∃ (t24 : Int),
    w.drew.cell? (t23.add (Int.toNat (IntKind.i64.wrap (at_ + 1)) * 1)) = some (.int .u8 t24) ∧
    S16_k2 b_a b_l b_c l_a l_l l_c at_ (IntKind.i64.wrap ((IntKind.i64.wrap ((IntKind.i64.wrap (256 * (IntKind.i64.wrap t17))) + (IntKind.i64.wrap t24))) + 4)) w.drew R B1
  ) ∧
  (
    ∃ (t24_1 : Int),
    w.drew.cell? (t23.add (Int.toNat (IntKind.i64.wrap (at_ + 1)) * 1)) = some (.int .u8 t24_1) ∧
    ∃ (t17_1 : Int),
    w.drew.cell? (t16.add (Int.toNat at_ * 1)) = some (.int .u8 t17_1) ∧
    S16_k2 b_a b_l b_c l_a l_l l_c at_ (IntKind.i64.wrap ((IntKind.i64.wrap ((IntKind.i64.wrap (256 * (IntKind.i64.wrap t17_1))) + (IntKind.i64.wrap t24_1))) + 4)) w.drew R B1
  )

def S16_L0 (b_a : Option Addr) (b_l : Nat) (b_c : Nat) (l_a : Option Addr) (l_l : Nat) (l_c : Nat) (at_ : Int) (w : World) (R : Value → World → Prop) (B1 : (Option Addr × Nat × Nat) × (Int) × Unit → World → Prop) : Prop :=
  cond (decide (((IntKind.i64.wrap (at_ + 4)) : Int) ≤ ((b_l : Nat) : Int))) (
    S16_k1 b_a b_l b_c l_a l_l l_c at_ w R B1
  ) (
    S16_k3 l_a l_l l_c at_ w R
  )

def S16 (b_a : Option Addr) (b_l : Nat) (b_c : Nat) (w : World) (R : Value → World → Prop) : Prop :=
  ∃ (I : (Option Addr × Nat × Nat) × (Int) × Unit → World → Prop) (μ : (Option Addr × Nat × Nat) × (Int) × Unit → World → Nat),
  I ((none, 0, 0), 0, ()) w ∧
  ∀ (J : Env) (s : (Option Addr × Nat × Nat) × (Int) × Unit) (w' : World), I s w' →
    S16_L0 b_a b_l b_c s.1.1 s.1.2.1 s.1.2.2 s.2.1 w' R (fun s' w'' => I s' w'' ∧ μ s' w'' < μ s w')

theorem S16_eq (b_a : Option Addr) (b_l : Nat) (b_c : Nat) (w : World) (R : Value → World → Prop) : Eng.R Try.prog ⟨cal, S16_nx⟩ 55 S16_ann [] (Try.f16.body.getD .skip) (bodyQ Try.prog #[.tmp 2, .tmp 3] R) (argE [(.slice b_a b_l b_c)]) w = S16 b_a b_l b_c w R := by kernel_rfl
/-- A call of 'carfax/carfaxref02.Scan', by its condition. -/
theorem S16_calls {b_a : Option Addr} {b_l : Nat} {b_c : Nat} {w : World} {R : Value → World → Prop} (hS : S16 b_a b_l b_c w R) : Ret Try.prog 16 [(.slice b_a b_l b_c)] w R :=
  R_calls (C := ⟨cal, S16_nx⟩) cal_ok follows Try.func16 (c := Try.f16.body.getD .skip) (res := #[.tmp 2, .tmp 3]) (n := 55) (by kernel_rfl) (by kernel_rfl) (by kernel_rfl) (by kernel_rfl) ((S16_eq b_a b_l b_c w R).mpr hS)

def S17_ann (p : List Nat) : Option LA := match p with
  | [0, 1, 0, 1, 1] => some ⟨[0, 1], [(5, .one (.int .i64))]⟩
  | _ => none

def S17_nx (t : Nat) : Option (TypeId × TypeId) := none

def S17_k3 (a_a : Option Addr) (a_l : Nat) (a_c : Nat) (b_a : Option Addr) (b_l : Nat) (b_c : Nat) (i : Int) (t27 : Bool) (w : World) (R : Value → World → Prop) (B1 : (Int) × Unit → World → Prop) : Prop :=
  cond t27 (
    R (.bool false) w
  ) (
    B1 ((IntKind.i64.wrap (i + 1)), ()) w
  )

def S17_k2 (a_a : Option Addr) (a_l : Nat) (a_c : Nat) (b_a : Option Addr) (b_l : Nat) (b_c : Nat) (i : Int) (w : World) (R : Value → World → Prop) (B1 : (Int) × Unit → World → Prop) : Prop :=
  ∃ (t19 : Addr),
  a_a = some t19 ∧
  0 ≤ (i : Int) ∧
  (i : Int) < ((a_l : Nat) : Int) ∧
  ∃ (t24 : Addr),
  b_a = some t24 ∧
  0 ≤ (i : Int) ∧
  (i : Int) < ((b_l : Nat) : Int) ∧
  (
    ∃ (t20_a : Option Addr) (t20_l : Nat) (t20_c : Nat),
    w.drew.cell? (t19.add (Int.toNat i * 1)) = some (.slice t20_a t20_l t20_c) ∧
    (
      ∃ (t21 : ByteArray) (w_ : World),
      (convert 22 9 (.slice t20_a t20_l t20_c)).run Try.prog w.drew = .ok (.string t21) w_ ∧
      ∃ (t25_a : Option Addr) (t25_l : Nat) (t25_c : Nat),
      w_.cell? (t24.add (Int.toNat i * 1)) = some (.slice t25_a t25_l t25_c) ∧
      ∃ (t26 : ByteArray) (w__1 : World),
      (convert 22 9 (.slice t25_a t25_l t25_c)).run Try.prog w_ = .ok (.string t26) w__1 ∧
      S17_k3 a_a a_l a_c b_a b_l b_c i (!decide ((t21 : ByteArray) = t26)) w__1 R B1
    ) ∧
    (
      ∃ (t25_a_1 : Option Addr) (t25_l_1 : Nat) (t25_c_1 : Nat),
      w.drew.cell? (t24.add (Int.toNat i * 1)) = some (.slice t25_a_1 t25_l_1 t25_c_1) ∧
      (
        ∃ (t21_1 : ByteArray) (w__2 : World),
        (convert 22 9 (.slice t20_a t20_l t20_c)).run Try.prog w.drew = .ok (.string t21_1) w__2 ∧
        ∃ (t26_1 : ByteArray) (w__3 : World),
        (convert 22 9 (.slice t25_a_1 t25_l_1 t25_c_1)).run Try.prog w__2 = .ok (.string t26_1) w__3 ∧
        S17_k3 a_a a_l a_c b_a b_l b_c i (!decide ((t21_1 : ByteArray) = t26_1)) w__3 R B1
      ) ∧
      (
        ∃ (t26_2 : ByteArray) (w__4 : World),
        (convert 22 9 (.slice t25_a_1 t25_l_1 t25_c_1)).run Try.prog w.drew = .ok (.string t26_2) w__4 ∧
        ∃ (t21_2 : ByteArray) (w__5 : World),
        (convert 22 9 (.slice t20_a t20_l t20_c)).run Try.prog w__4 = .ok (.string t21_2) w__5 ∧
        S17_k3 a_a a_l a_c b_a b_l b_c i (!decide ((t21_2 : ByteArray) = t26_2)) w__5 R B1
      )
    )
  ) ∧
  (
    ∃ (t25_a_2 : Option Addr) (t25_l_2 : Nat) (t25_c_2 : Nat),
    w.drew.cell? (t24.add (Int.toNat i * 1)) = some (.slice t25_a_2 t25_l_2 t25_c_2) ∧
    (
      ∃ (t20_a_1 : Option Addr) (t20_l_1 : Nat) (t20_c_1 : Nat),
      w.drew.cell? (t19.add (Int.toNat i * 1)) = some (.slice t20_a_1 t20_l_1 t20_c_1) ∧
      (
        ∃ (t21_3 : ByteArray) (w__6 : World),
        (convert 22 9 (.slice t20_a_1 t20_l_1 t20_c_1)).run Try.prog w.drew = .ok (.string t21_3) w__6 ∧
        ∃ (t26_3 : ByteArray) (w__7 : World),
        (convert 22 9 (.slice t25_a_2 t25_l_2 t25_c_2)).run Try.prog w__6 = .ok (.string t26_3) w__7 ∧
        S17_k3 a_a a_l a_c b_a b_l b_c i (!decide ((t21_3 : ByteArray) = t26_3)) w__7 R B1
      ) ∧
      (
        ∃ (t26_4 : ByteArray) (w__8 : World),
        (convert 22 9 (.slice t25_a_2 t25_l_2 t25_c_2)).run Try.prog w.drew = .ok (.string t26_4) w__8 ∧
        ∃ (t21_4 : ByteArray) (w__9 : World),
        (convert 22 9 (.slice t20_a_1 t20_l_1 t20_c_1)).run Try.prog w__8 = .ok (.string t21_4) w__9 ∧
        S17_k3 a_a a_l a_c b_a b_l b_c i (!decide ((t21_4 : ByteArray) = t26_4)) w__9 R B1
      )
    ) ∧
    (
      ∃ (t26_5 : ByteArray) (w__10 : World),
      (convert 22 9 (.slice t25_a_2 t25_l_2 t25_c_2)).run Try.prog w.drew = .ok (.string t26_5) w__10 ∧
      ∃ (t20_a_2 : Option Addr) (t20_l_2 : Nat) (t20_c_2 : Nat),
      w__10.cell? (t19.add (Int.toNat i * 1)) = some (.slice t20_a_2 t20_l_2 t20_c_2) ∧
      ∃ (t21_5 : ByteArray) (w__11 : World),
      (convert 22 9 (.slice t20_a_2 t20_l_2 t20_c_2)).run Try.prog w__10 = .ok (.string t21_5) w__11 ∧
      S17_k3 a_a a_l a_c b_a b_l b_c i (!decide ((t21_5 : ByteArray) = t26_5)) w__11 R B1
    )
  )

def S17_L1 (a_a : Option Addr) (a_l : Nat) (a_c : Nat) (b_a : Option Addr) (b_l : Nat) (b_c : Nat) (i : Int) (w : World) (R : Value → World → Prop) (B1 : (Int) × Unit → World → Prop) : Prop :=
  cond (decide ((i : Int) < ((a_l : Nat) : Int))) (
    S17_k2 a_a a_l a_c b_a b_l b_c i w R B1
  ) (
    R (.bool true) w
  )

def S17_k0 (a_a : Option Addr) (a_l : Nat) (a_c : Nat) (b_a : Option Addr) (b_l : Nat) (b_c : Nat) (w : World) (R : Value → World → Prop) : Prop :=
  ∃ (I : (Int) × Unit → World → Prop) (μ : (Int) × Unit → World → Nat),
  I (0, ()) w ∧
  ∀ (J : Env) (s : (Int) × Unit) (w' : World), I s w' →
    S17_L1 a_a a_l a_c b_a b_l b_c s.1 w' R (fun s' w'' => I s' w'' ∧ μ s' w'' < μ s w')

def S17 (a_a : Option Addr) (a_l : Nat) (a_c : Nat) (b_a : Option Addr) (b_l : Nat) (b_c : Nat) (w : World) (R : Value → World → Prop) : Prop :=
  cond (!decide ((((a_l : Nat) : Int) : Int) = ((b_l : Nat) : Int))) (
    R (.bool false) w
  ) (
    S17_k0 a_a a_l a_c b_a b_l b_c w R
  )

theorem S17_eq (a_a : Option Addr) (a_l : Nat) (a_c : Nat) (b_a : Option Addr) (b_l : Nat) (b_c : Nat) (w : World) (R : Value → World → Prop) : Eng.R Try.prog ⟨cal, S17_nx⟩ 28 S17_ann [] (Try.f17.body.getD .skip) (bodyQ Try.prog #[.tmp 4] R) (argE [(.slice a_a a_l a_c), (.slice b_a b_l b_c)]) w = S17 a_a a_l a_c b_a b_l b_c w R := by kernel_rfl
/-- A call of 'carfax/carfaxref02.Same', by its condition. -/
theorem S17_calls {a_a : Option Addr} {a_l : Nat} {a_c : Nat} {b_a : Option Addr} {b_l : Nat} {b_c : Nat} {w : World} {R : Value → World → Prop} (hS : S17 a_a a_l a_c b_a b_l b_c w R) : Ret Try.prog 17 [(.slice a_a a_l a_c), (.slice b_a b_l b_c)] w R :=
  R_calls (C := ⟨cal, S17_nx⟩) cal_ok follows Try.func17 (c := Try.f17.body.getD .skip) (res := #[.tmp 4]) (n := 28) (by kernel_rfl) (by kernel_rfl) (by kernel_rfl) (by kernel_rfl) ((S17_eq a_a a_l a_c b_a b_l b_c w R).mpr hS)

def S18_ann (p : List Nat) : Option LA :=
  none

def S18_nx (t : Nat) : Option (TypeId × TypeId) := none

def S18_k0 (b_a : Option Addr) (b_l : Nat) (b_c : Nat) (w : World) (R : Value → World → Prop) : Prop :=
  Calls Try.prog 23 ⟨[]⟩ w fun e w_ =>
    ∃ (t10 : Option Addr),
    e = .returned (.pointer t10) ∧
    Calls Try.prog 24 ⟨[(.pointer t10), (.int .u64 (IntKind.u64.wrap ((b_l : Nat) : Int))), (.int .i64 16)]⟩ w_ fun e w__1 =>
      ∃ (t15 : Int),
      e = .returned (.int .i64 t15) ∧
      Calls Try.prog 25 ⟨[(.pointer t10)]⟩ w__1 fun e w__2 =>
        ∃ (t17_a : Option Addr) (t17_l : Nat) (t17_c : Nat),
        e = .returned (.slice t17_a t17_l t17_c) ∧
        ∃ (t19_a : Option Addr) (t19_l : Nat) (t19_c : Nat) (w__3 : World),
        (Builtin.append_ #[22, 22] 22 ⟨[(.slice t17_a t17_l t17_c), (.slice b_a b_l b_c)]⟩).run Try.prog w__2 = .ok (.slice t19_a t19_l t19_c) w__3 ∧
        Calls Try.prog 23 ⟨[]⟩ w__3 fun e w__4 =>
          ∃ (t20 : Option Addr),
          e = .returned (.pointer t20) ∧
          Calls Try.prog 12 ⟨[(.slice t19_a t19_l t19_c)]⟩ w__4 fun e w__5 =>
            ∃ (t23 : Int),
            e = .returned (.int .u16 t23) ∧
            Calls Try.prog 24 ⟨[(.pointer t20), (.int .u64 (IntKind.u64.wrap t23)), (.int .i64 16)]⟩ w__5 fun e w__6 =>
              ∃ (t25 : Int),
              e = .returned (.int .i64 t25) ∧
              Calls Try.prog 25 ⟨[(.pointer t20)]⟩ w__6 fun e w__7 =>
                ∃ (t28_a : Option Addr) (t28_l : Nat) (t28_c : Nat),
                e = .returned (.slice t28_a t28_l t28_c) ∧
                ∃ (t29_a : Option Addr) (t29_l : Nat) (t29_c : Nat) (w__8 : World),
                (Builtin.append_ #[22, 22] 22 ⟨[(.slice t19_a t19_l t19_c), (.slice t28_a t28_l t28_c)]⟩).run Try.prog w__7 = .ok (.slice t29_a t29_l t29_c) w__8 ∧
                R (.tuple ⟨[(.slice t29_a t29_l t29_c), (.int .i64 0)]⟩) w__8

def S18 (b_a : Option Addr) (b_l : Nat) (b_c : Nat) (w : World) (R : Value → World → Prop) : Prop :=
  cond (decide ((1000 : Int) < ((b_l : Nat) : Int))) (
    R (.tuple ⟨[(.slice none 0 0), (.int .i64 4)]⟩) w
  ) (
    S18_k0 b_a b_l b_c w R
  )

theorem S18_eq (b_a : Option Addr) (b_l : Nat) (b_c : Nat) (w : World) (R : Value → World → Prop) : Eng.R Try.prog ⟨cal, S18_nx⟩ 30 S18_ann [] (Try.f18.body.getD .skip) (bodyQ Try.prog #[.tmp 2, .tmp 3] R) (argE [(.slice b_a b_l b_c)]) w = S18 b_a b_l b_c w R := by kernel_rfl
/-- A call of 'carfax/check.Frame', by its condition. -/
theorem S18_calls {b_a : Option Addr} {b_l : Nat} {b_c : Nat} {w : World} {R : Value → World → Prop} (hS : S18 b_a b_l b_c w R) : Ret Try.prog 18 [(.slice b_a b_l b_c)] w R :=
  R_calls (C := ⟨cal, S18_nx⟩) cal_ok follows Try.func18 (c := Try.f18.body.getD .skip) (res := #[.tmp 2, .tmp 3]) (n := 30) (by kernel_rfl) (by kernel_rfl) (by kernel_rfl) (by kernel_rfl) ((S18_eq b_a b_l b_c w R).mpr hS)

def S19_ann (p : List Nat) : Option LA :=
  none

def S19_nx (t : Nat) : Option (TypeId × TypeId) := none

def S19_k0 (b_a : Option Addr) (b_l : Nat) (b_c : Nat) (w : World) (R : Value → World → Prop) : Prop :=
  Calls Try.prog 26 ⟨[(.int .i64 ((b_l : Nat) : Int))]⟩ w fun e w_ =>
    ∃ (t10_a : Option Addr) (t10_l : Nat) (t10_c : Nat),
    e = .returned (.slice t10_a t10_l t10_c) ∧
    ∃ (t13_a : Option Addr) (t13_l : Nat) (t13_c : Nat) (w__1 : World),
    (Builtin.append_ #[22, 22] 22 ⟨[(.slice t10_a t10_l t10_c), (.slice b_a b_l b_c)]⟩).run Try.prog w_ = .ok (.slice t13_a t13_l t13_c) w__1 ∧
    Calls Try.prog 14 ⟨[(.slice t13_a t13_l t13_c)]⟩ w__1 fun e w__2 =>
      ∃ (t16 : Int),
      e = .returned (.int .u16 t16) ∧
      Calls Try.prog 26 ⟨[(.int .i64 (IntKind.i64.wrap t16))]⟩ w__2 fun e w__3 =>
        ∃ (t18_a : Option Addr) (t18_l : Nat) (t18_c : Nat),
        e = .returned (.slice t18_a t18_l t18_c) ∧
        ∃ (t19_a : Option Addr) (t19_l : Nat) (t19_c : Nat) (w__4 : World),
        (Builtin.append_ #[22, 22] 22 ⟨[(.slice t13_a t13_l t13_c), (.slice t18_a t18_l t18_c)]⟩).run Try.prog w__3 = .ok (.slice t19_a t19_l t19_c) w__4 ∧
        R (.tuple ⟨[(.slice t19_a t19_l t19_c), (.int .i64 0)]⟩) w__4

def S19 (b_a : Option Addr) (b_l : Nat) (b_c : Nat) (w : World) (R : Value → World → Prop) : Prop :=
  cond (decide ((1000 : Int) < ((b_l : Nat) : Int))) (
    R (.tuple ⟨[(.slice none 0 0), (.int .i64 4)]⟩) w
  ) (
    S19_k0 b_a b_l b_c w R
  )

theorem S19_eq (b_a : Option Addr) (b_l : Nat) (b_c : Nat) (w : World) (R : Value → World → Prop) : Eng.R Try.prog ⟨cal, S19_nx⟩ 21 S19_ann [] (Try.f19.body.getD .skip) (bodyQ Try.prog #[.tmp 2, .tmp 3] R) (argE [(.slice b_a b_l b_c)]) w = S19 b_a b_l b_c w R := by kernel_rfl
/-- A call of 'carfax/carfaxref02.Frame', by its condition. -/
theorem S19_calls {b_a : Option Addr} {b_l : Nat} {b_c : Nat} {w : World} {R : Value → World → Prop} (hS : S19 b_a b_l b_c w R) : Ret Try.prog 19 [(.slice b_a b_l b_c)] w R :=
  R_calls (C := ⟨cal, S19_nx⟩) cal_ok follows Try.func19 (c := Try.f19.body.getD .skip) (res := #[.tmp 2, .tmp 3]) (n := 21) (by kernel_rfl) (by kernel_rfl) (by kernel_rfl) (by kernel_rfl) ((S19_eq b_a b_l b_c w R).mpr hS)

def S20_ann (p : List Nat) : Option LA :=
  none

def S20_nx (t : Nat) : Option (TypeId × TypeId) := none

def S20_k1 (f_a : Option Addr) (f_l : Nat) (f_c : Nat) (n_ : Int) (w : World) (R : Value → World → Prop) : Prop :=
  0 ≤ ((IntKind.i64.wrap (n_ - 2)) : Int) ∧
  ((IntKind.i64.wrap (n_ - 2)) : Int) ≤ ((f_c : Nat) : Int) ∧
  0 ≤ (2 : Int) ∧
  (2 : Int) ≤ (((Int.toNat (IntKind.i64.wrap (n_ - 2))) : Nat) : Int) ∧
  ∃ (t19_a : Option Addr) (t19_l : Nat) (t19_c : Nat) (w_ : World),
  (Builtin.append_ #[22, 22] 22 ⟨[(.slice none 0 0), (.slice (slAddr f_a f_c (Int.toNat 2) 1) ((Int.toNat (IntKind.i64.wrap (n_ - 2))) - (Int.toNat 2)) (f_c - (Int.toNat 2)))]⟩).run Try.prog w = .ok (.slice t19_a t19_l t19_c) w_ ∧
  R (.tuple ⟨[(.slice t19_a t19_l t19_c), (.bool true)]⟩) w_

def S20_k0 (f_a : Option Addr) (f_l : Nat) (f_c : Nat) (n_ : Int) (t14 : Bool) (w : World) (R : Value → World → Prop) : Prop :=
  cond t14 (
    R (.tuple ⟨[(.slice none 0 0), (.bool false)]⟩) w
  ) (
    S20_k1 f_a f_l f_c n_ w R
  )

def S20 (f_a : Option Addr) (f_l : Nat) (f_c : Nat) (w : World) (R : Value → World → Prop) : Prop :=
  Calls Try.prog 22 ⟨[(.slice f_a f_l f_c)]⟩ w fun e w_ =>
    ∃ (t6 : Int),
    e = .returned (.int .i64 t6) ∧
    cond (decide ((t6 : Int) = 0)) (
      S20_k0 f_a f_l f_c t6 true w_ R
    ) (
      S20_k0 f_a f_l f_c t6 (!decide ((t6 : Int) = ((f_l : Nat) : Int))) w_ R
    )

theorem S20_eq (f_a : Option Addr) (f_l : Nat) (f_c : Nat) (w : World) (R : Value → World → Prop) : Eng.R Try.prog ⟨cal, S20_nx⟩ 20 S20_ann [] (Try.f20.body.getD .skip) (bodyQ Try.prog #[.tmp 2, .tmp 3] R) (argE [(.slice f_a f_l f_c)]) w = S20 f_a f_l f_c w R := by kernel_rfl
/-- A call of 'carfax/check.Open', by its condition. -/
theorem S20_calls {f_a : Option Addr} {f_l : Nat} {f_c : Nat} {w : World} {R : Value → World → Prop} (hS : S20 f_a f_l f_c w R) : Ret Try.prog 20 [(.slice f_a f_l f_c)] w R :=
  R_calls (C := ⟨cal, S20_nx⟩) cal_ok follows Try.func20 (c := Try.f20.body.getD .skip) (res := #[.tmp 2, .tmp 3]) (n := 20) (by kernel_rfl) (by kernel_rfl) (by kernel_rfl) (by kernel_rfl) ((S20_eq f_a f_l f_c w R).mpr hS)

def S21_ann (p : List Nat) : Option LA :=
  none

def S21_nx (t : Nat) : Option (TypeId × TypeId) := none

def S21_k1 (b_a : Option Addr) (b_l : Nat) (b_c : Nat) (t28 : Bool) (w : World) (R : Value → World → Prop) : Prop :=
  cond t28 (
    R (.tuple ⟨[(.slice none 0 0), (.bool false)]⟩) w
  ) (
    R (.tuple ⟨[(.slice b_a b_l b_c), (.bool true)]⟩) w
  )

def S21_k0 (f_a : Option Addr) (f_l : Nat) (f_c : Nat) (w : World) (R : Value → World → Prop) : Prop :=
  0 ≤ ((IntKind.i64.wrap (((f_l : Nat) : Int) - 2)) : Int) ∧
  ((IntKind.i64.wrap (((f_l : Nat) : Int) - 2)) : Int) ≤ ((f_c : Nat) : Int) ∧
  0 ≤ (2 : Int) ∧
  (2 : Int) ≤ (((Int.toNat (IntKind.i64.wrap (((f_l : Nat) : Int) - 2))) : Nat) : Int) ∧
  Calls Try.prog 19 ⟨[(.slice (slAddr f_a f_c (Int.toNat 2) 1) ((Int.toNat (IntKind.i64.wrap (((f_l : Nat) : Int) - 2))) - (Int.toNat 2)) (f_c - (Int.toNat 2)))]⟩ w fun e w_ =>
    ∃ (t17_0_a : Option Addr) (t17_0_l : Nat) (t17_0_c : Nat) (t17_1 : Int),
    e = .returned (.tuple ⟨[(.slice t17_0_a t17_0_l t17_0_c), (.int .i64 t17_1)]⟩) ∧
    cond (!decide ((t17_1 : Int) = 0)) (
      S21_k1 (slAddr f_a f_c (Int.toNat 2) 1) ((Int.toNat (IntKind.i64.wrap (((f_l : Nat) : Int) - 2))) - (Int.toNat 2)) (f_c - (Int.toNat 2)) true w_ R
    ) (
      ∃ (t24 : ByteArray) (w__1 : World),
      (convert 22 9 (.slice t17_0_a t17_0_l t17_0_c)).run Try.prog w_ = .ok (.string t24) w__1 ∧
      ∃ (t26 : ByteArray) (w__2 : World),
      (convert 22 9 (.slice f_a f_l f_c)).run Try.prog w__1 = .ok (.string t26) w__2 ∧
      S21_k1 (slAddr f_a f_c (Int.toNat 2) 1) ((Int.toNat (IntKind.i64.wrap (((f_l : Nat) : Int) - 2))) - (Int.toNat 2)) (f_c - (Int.toNat 2)) (!decide ((t24 : ByteArray) = t26)) w__2 R
    )

def S21 (f_a : Option Addr) (f_l : Nat) (f_c : Nat) (w : World) (R : Value → World → Prop) : Prop :=
  cond (decide ((((f_l : Nat) : Int) : Int) < 4)) (
    R (.tuple ⟨[(.slice none 0 0), (.bool false)]⟩) w
  ) (
    S21_k0 f_a f_l f_c w R
  )

theorem S21_eq (f_a : Option Addr) (f_l : Nat) (f_c : Nat) (w : World) (R : Value → World → Prop) : Eng.R Try.prog ⟨cal, S21_nx⟩ 30 S21_ann [] (Try.f21.body.getD .skip) (bodyQ Try.prog #[.tmp 2, .tmp 3] R) (argE [(.slice f_a f_l f_c)]) w = S21 f_a f_l f_c w R := by kernel_rfl
/-- A call of 'carfax/carfaxref02.Open', by its condition. -/
theorem S21_calls {f_a : Option Addr} {f_l : Nat} {f_c : Nat} {w : World} {R : Value → World → Prop} (hS : S21 f_a f_l f_c w R) : Ret Try.prog 21 [(.slice f_a f_l f_c)] w R :=
  R_calls (C := ⟨cal, S21_nx⟩) cal_ok follows Try.func21 (c := Try.f21.body.getD .skip) (res := #[.tmp 2, .tmp 3]) (n := 30) (by kernel_rfl) (by kernel_rfl) (by kernel_rfl) (by kernel_rfl) ((S21_eq f_a f_l f_c w R).mpr hS)

def S22_ann (p : List Nat) : Option LA :=
  none

def S22_nx (t : Nat) : Option (TypeId × TypeId) := none

def S22_k3 (n_ : Int) (t34 : Bool) (w : World) (R : Value → World → Prop) : Prop :=
  cond t34 (
    R (.int .i64 0) w
  ) (
    R (.int .i64 n_) w
  )

def S22_k2 (b_a : Option Addr) (b_l : Nat) (b_c : Nat) (n_ : Int) (w : World) (R : Value → World → Prop) : Prop :=
  0 ≤ (n_ : Int) ∧
  (n_ : Int) ≤ ((b_c : Nat) : Int) ∧
  0 ≤ ((IntKind.i64.wrap (n_ - 2)) : Int) ∧
  ((IntKind.i64.wrap (n_ - 2)) : Int) ≤ (((Int.toNat n_) : Nat) : Int) ∧
  0 ≤ ((IntKind.i64.wrap (n_ - 2)) : Int) ∧
  ((IntKind.i64.wrap (n_ - 2)) : Int) ≤ ((b_c : Nat) : Int) ∧
  Calls Try.prog 27 ⟨[(.slice (slAddr b_a b_c (Int.toNat (IntKind.i64.wrap (n_ - 2))) 1) ((Int.toNat n_) - (Int.toNat (IntKind.i64.wrap (n_ - 2)))) (b_c - (Int.toNat (IntKind.i64.wrap (n_ - 2)))))]⟩ w.drew fun e w_ =>
    ∃ (t26 : Option Addr),
    e = .returned (.pointer t26) ∧
    Calls Try.prog 28 ⟨[(.pointer t26), (.int .i64 16)]⟩ w_ fun e w__1 =>
      ∃ (t27 : Int),
      e = .returned (.int .u64 t27) ∧
      Calls Try.prog 12 ⟨[(.slice (slAddr b_a b_c 0 1) ((Int.toNat (IntKind.i64.wrap (n_ - 2))) - 0) (b_c - 0))]⟩ w__1 fun e w__2 =>
        ∃ (t32 : Int),
        e = .returned (.int .u16 t32) ∧
        S22_k3 n_ (!decide ((t27 : Int) = (IntKind.u64.wrap t32))) w__2 R

def S22_k1 (b_a : Option Addr) (b_l : Nat) (b_c : Nat) (n_ : Int) (t20 : Bool) (w : World) (R : Value → World → Prop) : Prop :=
  cond t20 (
    R (.int .i64 0) w
  ) (
    S22_k2 b_a b_l b_c n_ w R
  )

def S22_k0 (b_a : Option Addr) (b_l : Nat) (b_c : Nat) (w : World) (R : Value → World → Prop) : Prop :=
  0 ≤ (2 : Int) ∧
  (2 : Int) ≤ ((b_c : Nat) : Int) ∧
  Calls Try.prog 27 ⟨[(.slice (slAddr b_a b_c 0 1) ((Int.toNat 2) - 0) (b_c - 0))]⟩ w fun e w_ =>
    ∃ (t9 : Option Addr),
    e = .returned (.pointer t9) ∧
    Calls Try.prog 28 ⟨[(.pointer t9), (.int .i64 16)]⟩ w_ fun e w__1 =>
      ∃ (t10 : Int),
      e = .returned (.int .u64 t10) ∧
      cond (decide ((((b_l : Nat) : Int) : Int) < (IntKind.i64.wrap ((IntKind.i64.wrap t10) + 4)))) (
        S22_k1 b_a b_l b_c (IntKind.i64.wrap ((IntKind.i64.wrap t10) + 4)) true w__1 R
      ) (
        S22_k1 b_a b_l b_c (IntKind.i64.wrap ((IntKind.i64.wrap t10) + 4)) (decide ((1004 : Int) < (IntKind.i64.wrap ((IntKind.i64.wrap t10) + 4)))) w__1 R
      )

def S22 (b_a : Option Addr) (b_l : Nat) (b_c : Nat) (w : World) (R : Value → World → Prop) : Prop :=
  cond (decide ((((b_l : Nat) : Int) : Int) < 4)) (
    R (.int .i64 0) w
  ) (
    S22_k0 b_a b_l b_c w R
  )

theorem S22_eq (b_a : Option Addr) (b_l : Nat) (b_c : Nat) (w : World) (R : Value → World → Prop) : Eng.R Try.prog ⟨cal, S22_nx⟩ 36 S22_ann [] (Try.f22.body.getD .skip) (bodyQ Try.prog #[.tmp 2] R) (argE [(.slice b_a b_l b_c)]) w = S22 b_a b_l b_c w R := by kernel_rfl
/-- A call of 'carfax/check.size', by its condition. -/
theorem S22_calls {b_a : Option Addr} {b_l : Nat} {b_c : Nat} {w : World} {R : Value → World → Prop} (hS : S22 b_a b_l b_c w R) : Ret Try.prog 22 [(.slice b_a b_l b_c)] w R :=
  R_calls (C := ⟨cal, S22_nx⟩) cal_ok follows Try.func22 (c := Try.f22.body.getD .skip) (res := #[.tmp 2]) (n := 36) (by kernel_rfl) (by kernel_rfl) (by kernel_rfl) (by kernel_rfl) ((S22_eq b_a b_l b_c w R).mpr hS)

def S23_ann (p : List Nat) : Option LA :=
  none

def S23_nx (t : Nat) : Option (TypeId × TypeId) := none

def S23 (w : World) (R : Value → World → Prop) : Prop :=
  R (.pointer (some ⟨w.heap.size, 0, none⟩)) (w.alloc (.cells ⟨[(.slice none 0 0), (.int .i64 0)]⟩ 55))

theorem S23_eq (w : World) (R : Value → World → Prop) : Eng.R Try.prog ⟨cal, S23_nx⟩ 2 S23_ann [] (Try.f23.body.getD .skip) (bodyQ Try.prog #[.tmp 0] R) (argE []) w = S23  w R := by kernel_rfl
/-- A call of 'carfax/bits.NewWriter', by its condition. -/
theorem S23_calls {w : World} {R : Value → World → Prop} (hS : S23  w R) : Ret Try.prog 23 [] w R :=
  R_calls (C := ⟨cal, S23_nx⟩) cal_ok follows Try.func23 (c := Try.f23.body.getD .skip) (res := #[.tmp 0]) (n := 2) (by kernel_rfl) (by kernel_rfl) (by kernel_rfl) (by kernel_rfl) ((S23_eq  w R).mpr hS)

def S24_ann (p : List Nat) : Option LA := match p with
  | [0, 1, 0, 1, 1, 1] => some ⟨[1, 7], [(8, .one (.int .i64))]⟩
  | _ => none

def S24_nx (t : Nat) : Option (TypeId × TypeId) := none

def S24_k3 (n_ : Int) (lay_f0 : Option Addr) (k : Int) (w : World) (R : Value → World → Prop) (B1 : (Int) × Unit → World → Prop) : Prop :=
  0 ≤ (k : Int) ∧
  Calls Try.prog 29 ⟨[(.pointer lay_f0), (.bool (decide (((bitsI .and .u64 (Int.fdiv n_ (2 ^ (min (Int.toNat k) (IntKind.u64.bits)))) 1) : Int) = 1)))]⟩ w fun e w_ =>
    e = .returned (.tuple ⟨[]⟩) ∧
    B1 ((IntKind.i64.wrap (k - 1)), ()) w_

def S24_L2 (n_ : Int) (lay_f0 : Option Addr) (k : Int) (w : World) (R : Value → World → Prop) (B1 : (Int) × Unit → World → Prop) : Prop :=
  cond (decide ((0 : Int) ≤ k)) (
    S24_k3 n_ lay_f0 k w R B1
  ) (
    R (.int .i64 0) w
  )

def S24_k1 (w_ : Option Addr) (n_ : Int) (many : Int) (w : World) (R : Value → World → Prop) : Prop :=
  ∃ (I : (Int) × Unit → World → Prop) (μ : (Int) × Unit → World → Nat),
  I ((IntKind.i64.wrap (many - 1)), ()) w ∧
  ∀ (J : Env) (s : (Int) × Unit) (w' : World), I s w' →
    S24_L2 n_ w_ s.1 w' R (fun s' w'' => I s' w'' ∧ μ s' w'' < μ s w')

def S24_k0 (w_ : Option Addr) (n_ : Int) (many : Int) (t12 : Bool) (w : World) (R : Value → World → Prop) : Prop :=
  cond t12 (
    R (.int .i64 1) w
  ) (
    ∃ (t22 : Addr),
    w_ = some t22 ∧
    ∃ (t24 : Int),
    w.cell? (t22.add 1) = some (.int .i64 t24) ∧
    cond (decide (((IntKind.i64.wrap (1048576 - t24)) : Int) < many)) (
      R (.int .i64 4) w
    ) (
      S24_k1 w_ n_ many w R
    )
  )

def S24 (w_ : Option Addr) (n_ : Int) (many : Int) (w : World) (R : Value → World → Prop) : Prop :=
  cond (Option.isNone w_) (
    R (.int .i64 2) w
  ) (
    cond (decide ((many : Int) < 0)) (
      S24_k0 w_ n_ many true w R
    ) (
      S24_k0 w_ n_ many (decide ((64 : Int) < many)) w R
    )
  )

theorem S24_eq (w_ : Option Addr) (n_ : Int) (many : Int) (w : World) (R : Value → World → Prop) : Eng.R Try.prog ⟨cal, S24_nx⟩ 42 S24_ann [] (Try.f24.body.getD .skip) (bodyQ Try.prog #[.tmp 6] R) (argE [(.pointer w_), (.int .u64 n_), (.int .i64 many)]) w = S24 w_ n_ many w R := by kernel_rfl
/-- A call of '(*carfax/bits.Writer).Put', by its condition. -/
theorem S24_calls {w_ : Option Addr} {n_ : Int} {many : Int} {w : World} {R : Value → World → Prop} (hS : S24 w_ n_ many w R) : Ret Try.prog 24 [(.pointer w_), (.int .u64 n_), (.int .i64 many)] w R :=
  R_calls (C := ⟨cal, S24_nx⟩) cal_ok follows Try.func24 (c := Try.f24.body.getD .skip) (res := #[.tmp 6]) (n := 42) (by kernel_rfl) (by kernel_rfl) (by kernel_rfl) (by kernel_rfl) ((S24_eq w_ n_ many w R).mpr hS)

def S25_ann (p : List Nat) : Option LA :=
  none

def S25_nx (t : Nat) : Option (TypeId × TypeId) := none

def S25_k0 (w_ : Option Addr) (w : World) (R : Value → World → Prop) : Prop :=
  ∃ (t6 : Addr),
  w_ = some t6 ∧
  ∃ (t8_a : Option Addr) (t8_l : Nat) (t8_c : Nat),
  w.cell? t6 = some (.slice t8_a t8_l t8_c) ∧
  ∃ (t9_a : Option Addr) (t9_l : Nat) (t9_c : Nat) (w__1 : World),
  (Builtin.append_ #[22, 22] 22 ⟨[(.slice none 0 0), (.slice t8_a t8_l t8_c)]⟩).run Try.prog w = .ok (.slice t9_a t9_l t9_c) w__1 ∧
  R (.slice t9_a t9_l t9_c) w__1

def S25 (w_ : Option Addr) (w : World) (R : Value → World → Prop) : Prop :=
  cond (Option.isNone w_) (
    R (.slice none 0 0) w
  ) (
    S25_k0 w_ w R
  )

theorem S25_eq (w_ : Option Addr) (w : World) (R : Value → World → Prop) : Eng.R Try.prog ⟨cal, S25_nx⟩ 10 S25_ann [] (Try.f25.body.getD .skip) (bodyQ Try.prog #[.tmp 2] R) (argE [(.pointer w_)]) w = S25 w_ w R := by kernel_rfl
/-- A call of '(*carfax/bits.Writer).Out', by its condition. -/
theorem S25_calls {w_ : Option Addr} {w : World} {R : Value → World → Prop} (hS : S25 w_ w R) : Ret Try.prog 25 [(.pointer w_)] w R :=
  R_calls (C := ⟨cal, S25_nx⟩) cal_ok follows Try.func25 (c := Try.f25.body.getD .skip) (res := #[.tmp 2]) (n := 10) (by kernel_rfl) (by kernel_rfl) (by kernel_rfl) (by kernel_rfl) ((S25_eq w_ w R).mpr hS)

def S26_ann (p : List Nat) : Option LA :=
  none

def S26_nx (t : Nat) : Option (TypeId × TypeId) := none

def S26 (n_ : Int) (w : World) (R : Value → World → Prop) : Prop :=
  Calls Try.prog 31 ⟨[(.int .u64 (IntKind.u64.wrap n_)), (.int .i64 16)]⟩ w fun e w_ =>
    ∃ (t5_a : Option Addr) (t5_l : Nat) (t5_c : Nat),
    e = .returned (.slice t5_a t5_l t5_c) ∧
    Calls Try.prog 30 ⟨[(.slice t5_a t5_l t5_c)]⟩ w_ fun e w__1 =>
      ∃ (t6_a : Option Addr) (t6_l : Nat) (t6_c : Nat),
      e = .returned (.slice t6_a t6_l t6_c) ∧
      R (.slice t6_a t6_l t6_c) w__1

theorem S26_eq (n_ : Int) (w : World) (R : Value → World → Prop) : Eng.R Try.prog ⟨cal, S26_nx⟩ 7 S26_ann [] (Try.f26.body.getD .skip) (bodyQ Try.prog #[.tmp 2] R) (argE [(.int .i64 n_)]) w = S26 n_ w R := by kernel_rfl
/-- A call of 'carfax/carfaxref02.two', by its condition. -/
theorem S26_calls {n_ : Int} {w : World} {R : Value → World → Prop} (hS : S26 n_ w R) : Ret Try.prog 26 [(.int .i64 n_)] w R :=
  R_calls (C := ⟨cal, S26_nx⟩) cal_ok follows Try.func26 (c := Try.f26.body.getD .skip) (res := #[.tmp 2]) (n := 7) (by kernel_rfl) (by kernel_rfl) (by kernel_rfl) (by kernel_rfl) ((S26_eq n_ w R).mpr hS)

def S27_ann (p : List Nat) : Option LA :=
  none

def S27_nx (t : Nat) : Option (TypeId × TypeId) := none

def S27 (b_a : Option Addr) (b_l : Nat) (b_c : Nat) (w : World) (R : Value → World → Prop) : Prop :=
  ∃ (t4_a : Option Addr) (t4_l : Nat) (t4_c : Nat) (w_ : World),
  (Builtin.append_ #[22, 22] 22 ⟨[(.slice none 0 0), (.slice b_a b_l b_c)]⟩).run Try.prog w = .ok (.slice t4_a t4_l t4_c) w_ ∧
  R (.pointer (some ⟨w_.heap.size, 0, none⟩)) (w_.alloc (.cells ⟨[(.slice t4_a t4_l t4_c), (.int .i64 0), (.int .i64 0)]⟩ 61))

theorem S27_eq (b_a : Option Addr) (b_l : Nat) (b_c : Nat) (w : World) (R : Value → World → Prop) : Eng.R Try.prog ⟨cal, S27_nx⟩ 7 S27_ann [] (Try.f27.body.getD .skip) (bodyQ Try.prog #[.tmp 2] R) (argE [(.slice b_a b_l b_c)]) w = S27 b_a b_l b_c w R := by kernel_rfl
/-- A call of 'carfax/bits.NewReader', by its condition. -/
theorem S27_calls {b_a : Option Addr} {b_l : Nat} {b_c : Nat} {w : World} {R : Value → World → Prop} (hS : S27 b_a b_l b_c w R) : Ret Try.prog 27 [(.slice b_a b_l b_c)] w R :=
  R_calls (C := ⟨cal, S27_nx⟩) cal_ok follows Try.func27 (c := Try.f27.body.getD .skip) (res := #[.tmp 2]) (n := 7) (by kernel_rfl) (by kernel_rfl) (by kernel_rfl) (by kernel_rfl) ((S27_eq b_a b_l b_c w R).mpr hS)

def S28_ann (p : List Nat) : Option LA := match p with
  | [0, 1, 0, 1, 1, 1] => some ⟨[0, 34], [(5, .one (.int .u64)), (35, .one (.int .i64))]⟩
  | _ => none

def S28_nx (t : Nat) : Option (TypeId × TypeId) := none

def S28_k5 (r : Option Addr) (n_ : Int) (t34 : Int) (t35 : Int) (w : World) (R : Value → World → Prop) (B1 : (Int) × (Int) × Unit → World → Prop) : Prop :=
  ∃ (t44 : Addr),
  r = some t44 ∧
  ∃ (t46 : Int),
  w.cell? (t44.add 1) = some (.int .i64 t46) ∧
  ∃ (t48 : Addr),
  r = some t48 ∧
  (∃ u, w.cell? (t48.add 1) = some u) ∧
  w.frozen? (t48.add 1) = false ∧
  B1 (n_, (IntKind.i64.wrap (t35 + 1)), ()) (w.setCell (t48.add 1) (.int .i64 (IntKind.i64.wrap (t46 + 1))))

def S28_k4 (r : Option Addr) (n_ : Int) (t34 : Int) (t35 : Int) (w : World) (R : Value → World → Prop) (B1 : (Int) × (Int) × Unit → World → Prop) : Prop :=
  0 ≤ (1 : Int) ∧
  Calls Try.prog 33 ⟨[(.pointer r), (.int .i64 0)]⟩ w fun e w_ =>
    ∃ (t40 : Bool),
    e = .returned (.bool t40) ∧
    cond t40 (
      S28_k5 r (bitsI .or .u64 (IntKind.u64.wrap (n_ * 2 ^ (min (Int.toNat 1) (IntKind.u64.bits)))) 1) t34 t35 w_ R B1
    ) (
      S28_k5 r (IntKind.u64.wrap (n_ * 2 ^ (min (Int.toNat 1) (IntKind.u64.bits)))) t34 t35 w_ R B1
    )

def S28_L3 (r : Option Addr) (n_ : Int) (t34 : Int) (t35 : Int) (w : World) (R : Value → World → Prop) (B1 : (Int) × (Int) × Unit → World → Prop) : Prop :=
  cond (decide ((t35 : Int) < t34)) (
    S28_k4 r n_ t34 t35 w R B1
  ) (
    R (.int .u64 n_) w
  )

def S28_k2 (r : Option Addr) (many : Int) (w : World) (R : Value → World → Prop) : Prop :=
  ∃ (I : (Int) × (Int) × Unit → World → Prop) (μ : (Int) × (Int) × Unit → World → Nat),
  I (0, 0, ()) w ∧
  ∀ (J : Env) (s : (Int) × (Int) × Unit) (w' : World), I s w' →
    S28_L3 r s.1 many s.2.1 w' R (fun s' w'' => I s' w'' ∧ μ s' w'' < μ s w')

def S28_k1 (r : Option Addr) (many : Int) (t16 : Bool) (w : World) (R : Value → World → Prop) : Prop :=
  cond t16 (
    ∃ (t24 : Addr),
    r = some t24 ∧
    (∃ u, w.cell? (t24.add 2) = some u) ∧
    w.frozen? (t24.add 2) = false ∧
    R (.int .u64 0) (w.setCell (t24.add 2) (.int .i64 1))
  ) (
    Calls Try.prog 32 ⟨[(.pointer r)]⟩ w fun e w_ =>
      ∃ (t29 : Int),
      e = .returned (.int .i64 t29) ∧
      cond (decide ((t29 : Int) < many)) (
        ∃ (t32 : Addr),
        r = some t32 ∧
        (∃ u, w_.cell? (t32.add 2) = some u) ∧
        w_.frozen? (t32.add 2) = false ∧
        R (.int .u64 0) (w_.setCell (t32.add 2) (.int .i64 10))
      ) (
        S28_k2 r many w_ R
      )
  )

def S28_k0 (r : Option Addr) (many : Int) (t6 : Bool) (w : World) (R : Value → World → Prop) : Prop :=
  cond t6 (
    R (.int .u64 0) w
  ) (
    cond (decide ((many : Int) < 0)) (
      S28_k1 r many true w R
    ) (
      S28_k1 r many (decide ((64 : Int) < many)) w R
    )
  )

def S28 (r : Option Addr) (many : Int) (w : World) (R : Value → World → Prop) : Prop :=
  cond (Option.isNone r) (
    S28_k0 r many true w R
  ) (
    ∃ (t11 : Addr),
    r = some t11 ∧
    ∃ (t13 : Int),
    w.cell? (t11.add 2) = some (.int .i64 t13) ∧
    S28_k0 r many (!decide ((t13 : Int) = 0)) w R
  )

theorem S28_eq (r : Option Addr) (many : Int) (w : World) (R : Value → World → Prop) : Eng.R Try.prog ⟨cal, S28_nx⟩ 52 S28_ann [] (Try.f28.body.getD .skip) (bodyQ Try.prog #[.tmp 4] R) (argE [(.pointer r), (.int .i64 many)]) w = S28 r many w R := by kernel_rfl
/-- A call of '(*carfax/bits.Reader).Get', by its condition. -/
theorem S28_calls {r : Option Addr} {many : Int} {w : World} {R : Value → World → Prop} (hS : S28 r many w R) : Ret Try.prog 28 [(.pointer r), (.int .i64 many)] w R :=
  R_calls (C := ⟨cal, S28_nx⟩) cal_ok follows Try.func28 (c := Try.f28.body.getD .skip) (res := #[.tmp 4]) (n := 52) (by kernel_rfl) (by kernel_rfl) (by kernel_rfl) (by kernel_rfl) ((S28_eq r many w R).mpr hS)

def S29_ann (p : List Nat) : Option LA :=
  none

def S29_nx (t : Nat) : Option (TypeId × TypeId) := none

def S29_k1 (w_ : Option Addr) (w : World) (R : Value → World → Prop) : Prop :=
  ∃ (t40 : Addr),
  w_ = some t40 ∧
  ∃ (t42 : Int),
  w.cell? (t40.add 1) = some (.int .i64 t42) ∧
  ∃ (t44 : Addr),
  w_ = some t44 ∧
  (∃ u, w.cell? (t44.add 1) = some u) ∧
  w.frozen? (t44.add 1) = false ∧
  R (.tuple ⟨[]⟩) (w.setCell (t44.add 1) (.int .i64 (IntKind.i64.wrap (t42 + 1))))

def S29_k0 (w_ : Option Addr) (one : Bool) (w : World) (R : Value → World → Prop) : Prop :=
  cond one (
    ∃ (t21 : Addr),
    w_ = some t21 ∧
    ∃ (t25 : Addr),
    w_ = some t25 ∧
    ∃ (t32 : Addr),
    w_ = some t32 ∧
    (
      ∃ (t23_a : Option Addr) (t23_l : Nat) (t23_c : Nat),
      w.drew.cell? t21 = some (.slice t23_a t23_l t23_c) ∧
      (
        ∃ (t27 : Int),
        w.drew.cell? (t25.add 1) = some (.int .i64 t27) ∧
        (8 : Int) ≠ 0 ∧
        ∃ (t29 : Addr),
        t23_a = some t29 ∧
        0 ≤ ((IntKind.i64.wrap (Int.tdiv t27 8)) : Int) ∧
        ((IntKind.i64.wrap (Int.tdiv t27 8)) : Int) < ((t23_l : Nat) : Int) ∧
        ∃ (t34 : Int),
        w.drew.cell? (t32.add 1) = some (.int .i64 t34) ∧
        (8 : Int) ≠ 0 ∧
        0 ≤ ((Int.tmod t34 8) : Int) ∧
        ∃ (t30 : Int),
        w.drew.cell? (t29.add (Int.toNat (IntKind.i64.wrap (Int.tdiv t27 8)) * 1)) = some (.int .u8 t30) ∧
        ∃ (t38 : Addr),
        t23_a = some t38 ∧
        0 ≤ ((IntKind.i64.wrap (Int.tdiv t27 8)) : Int) ∧
        ((IntKind.i64.wrap (Int.tdiv t27 8)) : Int) < ((t23_l : Nat) : Int) ∧
        (∃ u, w.drew.cell? (t38.add (Int.toNat (IntKind.i64.wrap (Int.tdiv t27 8)) * 1)) = some u) ∧
        w.drew.frozen? (t38.add (Int.toNat (IntKind.i64.wrap (Int.tdiv t27 8)) * 1)) = false ∧
        S29_k1 w_ (w.drew.setCell (t38.add (Int.toNat (IntKind.i64.wrap (Int.tdiv t27 8)) * 1)) (.int .u8 (bitsI .or .u8 t30 (Int.fdiv 128 (2 ^ (min (Int.toNat (Int.tmod t34 8)) (IntKind.u8.bits))))))) R
      ) ∧
      (
        ∃ (t34_1 : Int),
        w.drew.cell? (t32.add 1) = some (.int .i64 t34_1) ∧
        (8 : Int) ≠ 0 ∧
        0 ≤ ((Int.tmod t34_1 8) : Int) ∧
        ∃ (t27_1 : Int),
        w.drew.cell? (t25.add 1) = some (.int .i64 t27_1) ∧
        (8 : Int) ≠ 0 ∧
        ∃ (t29_1 : Addr),
        t23_a = some t29_1 ∧
        0 ≤ ((IntKind.i64.wrap (Int.tdiv t27_1 8)) : Int) ∧
        ((IntKind.i64.wrap (Int.tdiv t27_1 8)) : Int) < ((t23_l : Nat) : Int) ∧
        ∃ (t30_1 : Int),
        w.drew.cell? (t29_1.add (Int.toNat (IntKind.i64.wrap (Int.tdiv t27_1 8)) * 1)) = some (.int .u8 t30_1) ∧
        ∃ (t38_1 : Addr),
        t23_a = some t38_1 ∧
        0 ≤ ((IntKind.i64.wrap (Int.tdiv t27_1 8)) : Int) ∧
        ((IntKind.i64.wrap (Int.tdiv t27_1 8)) : Int) < ((t23_l : Nat) : Int) ∧
        (∃ u, w.drew.cell? (t38_1.add (Int.toNat (IntKind.i64.wrap (Int.tdiv t27_1 8)) * 1)) = some u) ∧
        w.drew.frozen? (t38_1.add (Int.toNat (IntKind.i64.wrap (Int.tdiv t27_1 8)) * 1)) = false ∧
        S29_k1 w_ (w.drew.setCell (t38_1.add (Int.toNat (IntKind.i64.wrap (Int.tdiv t27_1 8)) * 1)) (.int .u8 (bitsI .or .u8 t30_1 (Int.fdiv 128 (2 ^ (min (Int.toNat (Int.tmod t34_1 8)) (IntKind.u8.bits))))))) R
      )
    ) ∧
    (
      ∃ (t27_2 : Int),
      w.drew.cell? (t25.add 1) = some (.int .i64 t27_2) ∧
      (8 : Int) ≠ 0 ∧
      ∃ (t34_2 : Int),
      w.drew.cell? (t32.add 1) = some (.int .i64 t34_2) ∧
      (8 : Int) ≠ 0 ∧
      0 ≤ ((Int.tmod t34_2 8) : Int) ∧
      ∃ (t23_a_1 : Option Addr) (t23_l_1 : Nat) (t23_c_1 : Nat),
      w.drew.cell? t21 = some (.slice t23_a_1 t23_l_1 t23_c_1) ∧
      ∃ (t29_2 : Addr),
      t23_a_1 = some t29_2 ∧
      0 ≤ ((IntKind.i64.wrap (Int.tdiv t27_2 8)) : Int) ∧
      ((IntKind.i64.wrap (Int.tdiv t27_2 8)) : Int) < ((t23_l_1 : Nat) : Int) ∧
      ∃ (t30_2 : Int),
      w.drew.cell? (t29_2.add (Int.toNat (IntKind.i64.wrap (Int.tdiv t27_2 8)) * 1)) = some (.int .u8 t30_2) ∧
      ∃ (t38_2 : Addr),
      t23_a_1 = some t38_2 ∧
      0 ≤ ((IntKind.i64.wrap (Int.tdiv t27_2 8)) : Int) ∧
      ((IntKind.i64.wrap (Int.tdiv t27_2 8)) : Int) < ((t23_l_1 : Nat) : Int) ∧
      (∃ u, w.drew.cell? (t38_2.add (Int.toNat (IntKind.i64.wrap (Int.tdiv t27_2 8)) * 1)) = some u) ∧
      w.drew.frozen? (t38_2.add (Int.toNat (IntKind.i64.wrap (Int.tdiv t27_2 8)) * 1)) = false ∧
      S29_k1 w_ (w.drew.setCell (t38_2.add (Int.toNat (IntKind.i64.wrap (Int.tdiv t27_2 8)) * 1)) (.int .u8 (bitsI .or .u8 t30_2 (Int.fdiv 128 (2 ^ (min (Int.toNat (Int.tmod t34_2 8)) (IntKind.u8.bits))))))) R
    ) ∧
    (
      ∃ (t34_3 : Int),
      w.drew.cell? (t32.add 1) = some (.int .i64 t34_3) ∧
      (8 : Int) ≠ 0 ∧
      0 ≤ ((Int.tmod t34_3 8) : Int) ∧
      ∃ (t27_3 : Int),
      w.drew.cell? (t25.add 1) = some (.int .i64 t27_3) ∧
      (8 : Int) ≠ 0 ∧
      ∃ (t23_a_2 : Option Addr) (t23_l_2 : Nat) (t23_c_2 : Nat),
      w.drew.cell? t21 = some (.slice t23_a_2 t23_l_2 t23_c_2) ∧
      ∃ (t29_3 : Addr),
      t23_a_2 = some t29_3 ∧
      0 ≤ ((IntKind.i64.wrap (Int.tdiv t27_3 8)) : Int) ∧
      ((IntKind.i64.wrap (Int.tdiv t27_3 8)) : Int) < ((t23_l_2 : Nat) : Int) ∧
      ∃ (t30_3 : Int),
      w.drew.cell? (t29_3.add (Int.toNat (IntKind.i64.wrap (Int.tdiv t27_3 8)) * 1)) = some (.int .u8 t30_3) ∧
      ∃ (t38_3 : Addr),
      t23_a_2 = some t38_3 ∧
      0 ≤ ((IntKind.i64.wrap (Int.tdiv t27_3 8)) : Int) ∧
      ((IntKind.i64.wrap (Int.tdiv t27_3 8)) : Int) < ((t23_l_2 : Nat) : Int) ∧
      (∃ u, w.drew.cell? (t38_3.add (Int.toNat (IntKind.i64.wrap (Int.tdiv t27_3 8)) * 1)) = some u) ∧
      w.drew.frozen? (t38_3.add (Int.toNat (IntKind.i64.wrap (Int.tdiv t27_3 8)) * 1)) = false ∧
      S29_k1 w_ (w.drew.setCell (t38_3.add (Int.toNat (IntKind.i64.wrap (Int.tdiv t27_3 8)) * 1)) (.int .u8 (bitsI .or .u8 t30_3 (Int.fdiv 128 (2 ^ (min (Int.toNat (Int.tmod t34_3 8)) (IntKind.u8.bits))))))) R
    )
  ) (
    S29_k1 w_ w R
  )

def S29 (w_ : Option Addr) (one : Bool) (w : World) (R : Value → World → Prop) : Prop :=
  ∃ (t5 : Addr),
  w_ = some t5 ∧
  ∃ (t7 : Int),
  w.cell? (t5.add 1) = some (.int .i64 t7) ∧
  (8 : Int) ≠ 0 ∧
  cond (decide (((Int.tmod t7 8) : Int) = 0)) (
    ∃ (t12 : Addr),
    w_ = some t12 ∧
    ∃ (t14_a : Option Addr) (t14_l : Nat) (t14_c : Nat),
    w.cell? t12 = some (.slice t14_a t14_l t14_c) ∧
    ∃ (t16_a : Option Addr) (t16_l : Nat) (t16_c : Nat) (w__1 : World),
    (Builtin.append_ #[22, 22] 22 ⟨[(.slice t14_a t14_l t14_c), (.slice (some ⟨w.heap.size, 0, none⟩) 1 1)]⟩).run Try.prog (w.alloc (.cells ⟨[(.int .u8 0)]⟩ 5)) = .ok (.slice t16_a t16_l t16_c) w__1 ∧
    ∃ (t17 : Addr),
    w_ = some t17 ∧
    (∃ u, w__1.cell? t17 = some u) ∧
    w__1.frozen? t17 = false ∧
    S29_k0 w_ one (w__1.setCell t17 (.slice t16_a t16_l t16_c)) R
  ) (
    S29_k0 w_ one w R
  )

theorem S29_eq (w_ : Option Addr) (one : Bool) (w : World) (R : Value → World → Prop) : Eng.R Try.prog ⟨cal, S29_nx⟩ 46 S29_ann [] (Try.f29.body.getD .skip) (bodyQ Try.prog #[] R) (argE [(.pointer w_), (.bool one)]) w = S29 w_ one w R := by kernel_rfl
/-- A call of '(*carfax/bits.Writer).bit', by its condition. -/
theorem S29_calls {w_ : Option Addr} {one : Bool} {w : World} {R : Value → World → Prop} (hS : S29 w_ one w R) : Ret Try.prog 29 [(.pointer w_), (.bool one)] w R :=
  R_calls (C := ⟨cal, S29_nx⟩) cal_ok follows Try.func29 (c := Try.f29.body.getD .skip) (res := #[]) (n := 46) (by kernel_rfl) (by kernel_rfl) (by kernel_rfl) (by kernel_rfl) ((S29_eq w_ one w R).mpr hS)

def S30_ann (p : List Nat) : Option LA := match p with
  | [0, 1, 0, 1, 1] => some ⟨[0], [(3, .one .slice), (4, .one (.int .i64))]⟩
  | [0, 1, 0, 1, 0, 1, 1, 0, 0, 1, 0, 0, 1, 0, 1, 1] => some ⟨[0, 3, 4], [(5, .one (.int .u8)), (6, .one (.int .i64))]⟩
  | _ => none

def S30_nx (t : Nat) : Option (TypeId × TypeId) := none

def S30_k4 (l_a : Option Addr) (l_l : Nat) (l_c : Nat) (b_a : Option Addr) (b_l : Nat) (b_c : Nat) (i : Int) (p : Int) (k : Int) (w : World) (R : Value → World → Prop) (B1 : (Option Addr × Nat × Nat) × (Int) × Unit → World → Prop) (B2 : (Int) × (Int) × Unit → World → Prop) : Prop :=
  (2 : Int) ≠ 0 ∧
  B2 ((IntKind.u8.wrap (Int.tdiv p 2)), (IntKind.i64.wrap (k + 1)), ()) w

def S30_k5 (l_a : Option Addr) (l_l : Nat) (l_c : Nat) (b_a : Option Addr) (b_l : Nat) (b_c : Nat) (i : Int) (p : Int) (w : World) (R : Value → World → Prop) (B1 : (Option Addr × Nat × Nat) × (Int) × Unit → World → Prop) : Prop :=
  (8 : Int) ≠ 0 ∧
  (8 : Int) ≠ 0 ∧
  ∃ (t37 : Addr),
  b_a = some t37 ∧
  0 ≤ ((IntKind.i64.wrap (Int.tdiv i 8)) : Int) ∧
  ((IntKind.i64.wrap (Int.tdiv i 8)) : Int) < ((b_l : Nat) : Int) ∧
  ∃ (t38 : Int),
  w.cell? (t37.add (Int.toNat (IntKind.i64.wrap (Int.tdiv i 8)) * 1)) = some (.int .u8 t38) ∧
  ∃ (t41 : Addr),
  b_a = some t41 ∧
  0 ≤ ((IntKind.i64.wrap (Int.tdiv i 8)) : Int) ∧
  ((IntKind.i64.wrap (Int.tdiv i 8)) : Int) < ((b_l : Nat) : Int) ∧
  (∃ u, w.cell? (t41.add (Int.toNat (IntKind.i64.wrap (Int.tdiv i 8)) * 1)) = some u) ∧
  w.frozen? (t41.add (Int.toNat (IntKind.i64.wrap (Int.tdiv i 8)) * 1)) = false ∧
  B1 ((b_a, b_l, b_c), (IntKind.i64.wrap (i + 1)), ()) (w.setCell (t41.add (Int.toNat (IntKind.i64.wrap (Int.tdiv i 8)) * 1)) (.int .u8 (IntKind.u8.wrap (t38 + p))))

def S30_L3 (l_a : Option Addr) (l_l : Nat) (l_c : Nat) (b_a : Option Addr) (b_l : Nat) (b_c : Nat) (i : Int) (p : Int) (k : Int) (w : World) (R : Value → World → Prop) (B1 : (Option Addr × Nat × Nat) × (Int) × Unit → World → Prop) (B2 : (Int) × (Int) × Unit → World → Prop) : Prop :=
  (8 : Int) ≠ 0 ∧
  cond (decide ((k : Int) < (Int.tmod i 8))) (
    S30_k4 l_a l_l l_c b_a b_l b_c i p k w R B1 B2
  ) (
    S30_k5 l_a l_l l_c b_a b_l b_c i p w R B1
  )

def S30_k2 (l_a : Option Addr) (l_l : Nat) (l_c : Nat) (b_a : Option Addr) (b_l : Nat) (b_c : Nat) (i : Int) (w : World) (R : Value → World → Prop) (B1 : (Option Addr × Nat × Nat) × (Int) × Unit → World → Prop) : Prop :=
  ∃ (t21 : Addr),
  l_a = some t21 ∧
  0 ≤ (i : Int) ∧
  (i : Int) < ((l_l : Nat) : Int) ∧
  ∃ (t22 : Bool),
  w.cell? (t21.add (Int.toNat i * 1)) = some (.bool t22) ∧
  cond t22 (
    ∃ (I : (Int) × (Int) × Unit → World → Prop) (μ : (Int) × (Int) × Unit → World → Nat),
    I (128, 0, ()) w ∧
    ∀ (J : Env) (s : (Int) × (Int) × Unit) (w' : World), I s w' →
      S30_L3 l_a l_l l_c b_a b_l b_c i s.1 s.2.1 w' R B1 (fun s' w'' => I s' w'' ∧ μ s' w'' < μ s w')
  ) (
    B1 ((b_a, b_l, b_c), (IntKind.i64.wrap (i + 1)), ()) w
  )

def S30_k1 (l_a : Option Addr) (l_l : Nat) (l_c : Nat) (b_a : Option Addr) (b_l : Nat) (b_c : Nat) (i : Int) (w : World) (R : Value → World → Prop) (B1 : (Option Addr × Nat × Nat) × (Int) × Unit → World → Prop) : Prop :=
  (8 : Int) ≠ 0 ∧
  cond (decide (((Int.tmod i 8) : Int) = 0)) (
    ∃ (t18_a : Option Addr) (t18_l : Nat) (t18_c : Nat) (w_ : World),
    (Builtin.append_ #[22, 22] 22 ⟨[(.slice b_a b_l b_c), (.slice (some ⟨w.heap.size, 0, none⟩) 1 1)]⟩).run Try.prog (w.alloc (.cells ⟨[(.int .u8 0)]⟩ 5)) = .ok (.slice t18_a t18_l t18_c) w_ ∧
    S30_k2 l_a l_l l_c t18_a t18_l t18_c i w_ R B1
  ) (
    S30_k2 l_a l_l l_c b_a b_l b_c i w R B1
  )

def S30_L0 (l_a : Option Addr) (l_l : Nat) (l_c : Nat) (b_a : Option Addr) (b_l : Nat) (b_c : Nat) (i : Int) (w : World) (R : Value → World → Prop) (B1 : (Option Addr × Nat × Nat) × (Int) × Unit → World → Prop) : Prop :=
  cond (decide ((i : Int) < ((l_l : Nat) : Int))) (
    S30_k1 l_a l_l l_c b_a b_l b_c i w R B1
  ) (
    R (.slice b_a b_l b_c) w
  )

def S30 (l_a : Option Addr) (l_l : Nat) (l_c : Nat) (w : World) (R : Value → World → Prop) : Prop :=
  ∃ (I : (Option Addr × Nat × Nat) × (Int) × Unit → World → Prop) (μ : (Option Addr × Nat × Nat) × (Int) × Unit → World → Nat),
  I ((none, 0, 0), 0, ()) w ∧
  ∀ (J : Env) (s : (Option Addr × Nat × Nat) × (Int) × Unit) (w' : World), I s w' →
    S30_L0 l_a l_l l_c s.1.1 s.1.2.1 s.1.2.2 s.2.1 w' R (fun s' w'' => I s' w'' ∧ μ s' w'' < μ s w')

theorem S30_eq (l_a : Option Addr) (l_l : Nat) (l_c : Nat) (w : World) (R : Value → World → Prop) : Eng.R Try.prog ⟨cal, S30_nx⟩ 43 S30_ann [] (Try.f30.body.getD .skip) (bodyQ Try.prog #[.tmp 2] R) (argE [(.slice l_a l_l l_c)]) w = S30 l_a l_l l_c w R := by kernel_rfl
/-- A call of 'carfax/carfaxref01.Bytes', by its condition. -/
theorem S30_calls {l_a : Option Addr} {l_l : Nat} {l_c : Nat} {w : World} {R : Value → World → Prop} (hS : S30 l_a l_l l_c w R) : Ret Try.prog 30 [(.slice l_a l_l l_c)] w R :=
  R_calls (C := ⟨cal, S30_nx⟩) cal_ok follows Try.func30 (c := Try.f30.body.getD .skip) (res := #[.tmp 2]) (n := 43) (by kernel_rfl) (by kernel_rfl) (by kernel_rfl) (by kernel_rfl) ((S30_eq l_a l_l l_c w R).mpr hS)

def S31_ann (p : List Nat) : Option LA := match p with
  | [0, 1, 0, 1, 1] => some ⟨[1], [(0, .one (.int .u64)), (5, .one .slice), (6, .one (.int .i64))]⟩
  | _ => none

def S31_nx (t : Nat) : Option (TypeId × TypeId) := none

def S31_k1 (n_ : Int) (many : Int) (l_a : Option Addr) (l_l : Nat) (l_c : Nat) (i : Int) (w : World) (R : Value → World → Prop) (B1 : (Int) × (Option Addr × Nat × Nat) × (Int) × Unit → World → Prop) : Prop :=
  (2 : Int) ≠ 0 ∧
  ∃ (t17_a : Option Addr) (t17_l : Nat) (t17_c : Nat) (w_ : World),
  (Builtin.append_ #[58, 58] 58 ⟨[(.slice (some ⟨w.heap.size, 0, none⟩) 1 1), (.slice l_a l_l l_c)]⟩).run Try.prog (w.alloc (.cells ⟨[(.bool (decide (((Int.tmod n_ 2) : Int) = 1)))]⟩ 4)) = .ok (.slice t17_a t17_l t17_c) w_ ∧
  (2 : Int) ≠ 0 ∧
  B1 ((IntKind.u64.wrap (Int.tdiv n_ 2)), (t17_a, t17_l, t17_c), (IntKind.i64.wrap (i + 1)), ()) w_

def S31_L0 (n_ : Int) (many : Int) (l_a : Option Addr) (l_l : Nat) (l_c : Nat) (i : Int) (w : World) (R : Value → World → Prop) (B1 : (Int) × (Option Addr × Nat × Nat) × (Int) × Unit → World → Prop) : Prop :=
  cond (decide ((i : Int) < many)) (
    S31_k1 n_ many l_a l_l l_c i w R B1
  ) (
    R (.slice l_a l_l l_c) w
  )

def S31 (n_ : Int) (many : Int) (w : World) (R : Value → World → Prop) : Prop :=
  ∃ (I : (Int) × (Option Addr × Nat × Nat) × (Int) × Unit → World → Prop) (μ : (Int) × (Option Addr × Nat × Nat) × (Int) × Unit → World → Nat),
  I (n_, (none, 0, 0), 0, ()) w ∧
  ∀ (J : Env) (s : (Int) × (Option Addr × Nat × Nat) × (Int) × Unit) (w' : World), I s w' →
    S31_L0 s.1 many s.2.1.1 s.2.1.2.1 s.2.1.2.2 s.2.2.1 w' R (fun s' w'' => I s' w'' ∧ μ s' w'' < μ s w')

theorem S31_eq (n_ : Int) (many : Int) (w : World) (R : Value → World → Prop) : Eng.R Try.prog ⟨cal, S31_nx⟩ 21 S31_ann [] (Try.f31.body.getD .skip) (bodyQ Try.prog #[.tmp 4] R) (argE [(.int .u64 n_), (.int .i64 many)]) w = S31 n_ many w R := by kernel_rfl
/-- A call of 'carfax/carfaxref01.Bits', by its condition. -/
theorem S31_calls {n_ : Int} {many : Int} {w : World} {R : Value → World → Prop} (hS : S31 n_ many w R) : Ret Try.prog 31 [(.int .u64 n_), (.int .i64 many)] w R :=
  R_calls (C := ⟨cal, S31_nx⟩) cal_ok follows Try.func31 (c := Try.f31.body.getD .skip) (res := #[.tmp 4]) (n := 21) (by kernel_rfl) (by kernel_rfl) (by kernel_rfl) (by kernel_rfl) ((S31_eq n_ many w R).mpr hS)

def S32_ann (p : List Nat) : Option LA :=
  none

def S32_nx (t : Nat) : Option (TypeId × TypeId) := none

def S32_k0 (r : Option Addr) (w : World) (R : Value → World → Prop) : Prop :=
  ∃ (t6 : Addr),
  r = some t6 ∧
  ∃ (t12 : Addr),
  r = some t12 ∧
  ∃ (t8_a : Option Addr) (t8_l : Nat) (t8_c : Nat),
  w.drew.cell? t6 = some (.slice t8_a t8_l t8_c) ∧
  ∃ (t14 : Int),
  w.drew.cell? (t12.add 1) = some (.int .i64 t14) ∧
  R (.int .i64 (IntKind.i64.wrap ((IntKind.i64.wrap (8 * ((t8_l : Nat) : Int))) - t14))) w.drew

def S32 (r : Option Addr) (w : World) (R : Value → World → Prop) : Prop :=
  cond (Option.isNone r) (
    R (.int .i64 0) w
  ) (
    S32_k0 r w R
  )

theorem S32_eq (r : Option Addr) (w : World) (R : Value → World → Prop) : Eng.R Try.prog ⟨cal, S32_nx⟩ 16 S32_ann [] (Try.f32.body.getD .skip) (bodyQ Try.prog #[.tmp 2] R) (argE [(.pointer r)]) w = S32 r w R := by kernel_rfl
/-- A call of '(*carfax/bits.Reader).Left', by its condition. -/
theorem S32_calls {r : Option Addr} {w : World} {R : Value → World → Prop} (hS : S32 r w R) : Ret Try.prog 32 [(.pointer r)] w R :=
  R_calls (C := ⟨cal, S32_nx⟩) cal_ok follows Try.func32 (c := Try.f32.body.getD .skip) (res := #[.tmp 2]) (n := 16) (by kernel_rfl) (by kernel_rfl) (by kernel_rfl) (by kernel_rfl) ((S32_eq r w R).mpr hS)

def S33_ann (p : List Nat) : Option LA :=
  none

def S33_nx (t : Nat) : Option (TypeId × TypeId) := none

def S33 (r : Option Addr) (ahead : Int) (w : World) (R : Value → World → Prop) : Prop :=
  ∃ (t7 : Addr),
  r = some t7 ∧
  ∃ (t9 : Int),
  w.cell? (t7.add 1) = some (.int .i64 t9) ∧
  ∃ (t13 : Addr),
  r = some t13 ∧
  ∃ (t15_a : Option Addr) (t15_l : Nat) (t15_c : Nat),
  w.cell? t13 = some (.slice t15_a t15_l t15_c) ∧
  (8 : Int) ≠ 0 ∧
  ∃ (t18 : Addr),
  t15_a = some t18 ∧
  0 ≤ ((IntKind.i64.wrap (Int.tdiv (IntKind.i64.wrap (t9 + ahead)) 8)) : Int) ∧
  ((IntKind.i64.wrap (Int.tdiv (IntKind.i64.wrap (t9 + ahead)) 8)) : Int) < ((t15_l : Nat) : Int) ∧
  ∃ (t19 : Int),
  w.cell? (t18.add (Int.toNat (IntKind.i64.wrap (Int.tdiv (IntKind.i64.wrap (t9 + ahead)) 8)) * 1)) = some (.int .u8 t19) ∧
  (8 : Int) ≠ 0 ∧
  0 ≤ ((IntKind.i64.wrap (7 - (Int.tmod (IntKind.i64.wrap (t9 + ahead)) 8))) : Int) ∧
  R (.bool (decide (((bitsI .and .u8 (Int.fdiv t19 (2 ^ (min (Int.toNat (IntKind.i64.wrap (7 - (Int.tmod (IntKind.i64.wrap (t9 + ahead)) 8)))) (IntKind.u8.bits)))) 1) : Int) = 1))) w

theorem S33_eq (r : Option Addr) (ahead : Int) (w : World) (R : Value → World → Prop) : Eng.R Try.prog ⟨cal, S33_nx⟩ 26 S33_ann [] (Try.f33.body.getD .skip) (bodyQ Try.prog #[.tmp 4] R) (argE [(.pointer r), (.int .i64 ahead)]) w = S33 r ahead w R := by kernel_rfl
/-- A call of '(*carfax/bits.Reader).one', by its condition. -/
theorem S33_calls {r : Option Addr} {ahead : Int} {w : World} {R : Value → World → Prop} (hS : S33 r ahead w R) : Ret Try.prog 33 [(.pointer r), (.int .i64 ahead)] w R :=
  R_calls (C := ⟨cal, S33_nx⟩) cal_ok follows Try.func33 (c := Try.f33.body.getD .skip) (res := #[.tmp 4]) (n := 26) (by kernel_rfl) (by kernel_rfl) (by kernel_rfl) (by kernel_rfl) ((S33_eq r ahead w R).mpr hS)

end Go.Proofs
