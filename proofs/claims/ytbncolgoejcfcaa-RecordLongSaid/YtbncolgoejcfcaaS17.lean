import Derived.Test.YtbncolgoejcfcaaProg
import Derived.Test.YtbncolgoejcfcaaEng8
set_option linter.unusedVariables false
set_option maxRecDepth 100000
namespace Go.Proofs
open Go Go.Eng
def cal (f : FuncId) : Bool := Nat.ble 3 f && Nat.blt f 45
theorem cal_all : (List.range 45).all (fun f => !cal f || callable Try.prog f) = true := by kernel_rfl
theorem cal_ok (f : FuncId) (h : cal f = true) : callable Try.prog f = true := by
  have hb := h
  simp only [cal, Bool.and_eq_true, Nat.blt_eq] at hb
  have := List.all_eq_true.1 cal_all f (List.mem_range.2 hb.2)
  rw [h] at this
  simpa using this
theorem follows : Try.prog.follows .mixedOrders = true := by kernel_rfl

def S3_ann (p : List Nat) : Option LA :=
  none

def S3_nx (t : Nat) : Option (TypeId × TypeId) := none

def S3 (r_0 : Int) (r_1 : Int) (r_2 : Int) (r_3 : Int) (r_4 : Int) (r_5 : Int) (w : World) (R : Value → World → Prop) : Prop :=
  ∃ (t8_0 : Int),
  (w.alloc (.cells ⟨[(.int .u8 r_0), (.int .i64 r_1), (.int .i64 r_2), (.int .i64 r_3), (.int .i64 r_4), (.int .i64 r_5)]⟩ 23)).cell? ⟨w.heap.size, 0, none⟩ = some (.int .u8 t8_0) ∧
  ∃ (t8_1 : Int),
  (w.alloc (.cells ⟨[(.int .u8 r_0), (.int .i64 r_1), (.int .i64 r_2), (.int .i64 r_3), (.int .i64 r_4), (.int .i64 r_5)]⟩ 23)).cell? ⟨w.heap.size, 1, none⟩ = some (.int .i64 t8_1) ∧
  ∃ (t8_2 : Int),
  (w.alloc (.cells ⟨[(.int .u8 r_0), (.int .i64 r_1), (.int .i64 r_2), (.int .i64 r_3), (.int .i64 r_4), (.int .i64 r_5)]⟩ 23)).cell? ⟨w.heap.size, 2, none⟩ = some (.int .i64 t8_2) ∧
  ∃ (t8_3 : Int),
  (w.alloc (.cells ⟨[(.int .u8 r_0), (.int .i64 r_1), (.int .i64 r_2), (.int .i64 r_3), (.int .i64 r_4), (.int .i64 r_5)]⟩ 23)).cell? ⟨w.heap.size, 3, none⟩ = some (.int .i64 t8_3) ∧
  ∃ (t8_4 : Int),
  (w.alloc (.cells ⟨[(.int .u8 r_0), (.int .i64 r_1), (.int .i64 r_2), (.int .i64 r_3), (.int .i64 r_4), (.int .i64 r_5)]⟩ 23)).cell? ⟨w.heap.size, 4, none⟩ = some (.int .i64 t8_4) ∧
  ∃ (t8_5 : Int),
  (w.alloc (.cells ⟨[(.int .u8 r_0), (.int .i64 r_1), (.int .i64 r_2), (.int .i64 r_3), (.int .i64 r_4), (.int .i64 r_5)]⟩ 23)).cell? ⟨w.heap.size, 5, none⟩ = some (.int .i64 t8_5) ∧
  Calls Try.prog 9 ⟨[(.agg ⟨[(.int .u8 t8_0), (.int .i64 t8_1), (.int .i64 t8_2), (.int .i64 t8_3), (.int .i64 t8_4), (.int .i64 t8_5)]⟩)]⟩ (w.alloc (.cells ⟨[(.int .u8 r_0), (.int .i64 r_1), (.int .i64 r_2), (.int .i64 r_3), (.int .i64 r_4), (.int .i64 r_5)]⟩ 23)) fun e w_ =>
    ∃ (t9_0_a : Option Addr) (t9_0_l : Nat) (t9_0_c : Nat) (t9_1 : Int),
    e = .returned (.tuple ⟨[(.slice t9_0_a t9_0_l t9_0_c), (.int .i64 t9_1)]⟩) ∧
    ∃ (t13_0 : Int),
    w_.cell? ⟨w.heap.size, 0, none⟩ = some (.int .u8 t13_0) ∧
    ∃ (t13_1 : Int),
    w_.cell? ⟨w.heap.size, 1, none⟩ = some (.int .i64 t13_1) ∧
    ∃ (t13_2 : Int),
    w_.cell? ⟨w.heap.size, 2, none⟩ = some (.int .i64 t13_2) ∧
    ∃ (t13_3 : Int),
    w_.cell? ⟨w.heap.size, 3, none⟩ = some (.int .i64 t13_3) ∧
    ∃ (t13_4 : Int),
    w_.cell? ⟨w.heap.size, 4, none⟩ = some (.int .i64 t13_4) ∧
    ∃ (t13_5 : Int),
    w_.cell? ⟨w.heap.size, 5, none⟩ = some (.int .i64 t13_5) ∧
    Calls Try.prog 10 ⟨[(.agg ⟨[(.int .u8 t13_0), (.int .i64 t13_1), (.int .i64 t13_2), (.int .i64 t13_3), (.int .i64 t13_4), (.int .i64 t13_5)]⟩)]⟩ w_ fun e w__1 =>
      ∃ (t14_0_a : Option Addr) (t14_0_l : Nat) (t14_0_c : Nat) (t14_1 : Int),
      e = .returned (.tuple ⟨[(.slice t14_0_a t14_0_l t14_0_c), (.int .i64 t14_1)]⟩) ∧
      Calls Try.prog 11 ⟨[]⟩ w__1.drew fun e w__2 =>
        ∃ (t17 : Bool),
        e = .returned (.bool t17) ∧
        cond t17 (
          ∃ (t19_0 : Int),
          w__2.cell? ⟨w.heap.size, 0, none⟩ = some (.int .u8 t19_0) ∧
          ∃ (t19_1 : Int),
          w__2.cell? ⟨w.heap.size, 1, none⟩ = some (.int .i64 t19_1) ∧
          ∃ (t19_2 : Int),
          w__2.cell? ⟨w.heap.size, 2, none⟩ = some (.int .i64 t19_2) ∧
          ∃ (t19_3 : Int),
          w__2.cell? ⟨w.heap.size, 3, none⟩ = some (.int .i64 t19_3) ∧
          ∃ (t19_4 : Int),
          w__2.cell? ⟨w.heap.size, 4, none⟩ = some (.int .i64 t19_4) ∧
          ∃ (t19_5 : Int),
          w__2.cell? ⟨w.heap.size, 5, none⟩ = some (.int .i64 t19_5) ∧
          (
            Calls Try.prog 12 ⟨[(.agg ⟨[(.int .u8 t19_0), (.int .i64 t19_1), (.int .i64 t19_2), (.int .i64 t19_3), (.int .i64 t19_4), (.int .i64 t19_5)]⟩)]⟩ w__2 fun e w__3 =>
              ∃ (t20 : Bool),
              e = .returned (.bool t20) ∧
              ∃ (t21_0 : Int),
              w__3.cell? ⟨w.heap.size, 0, none⟩ = some (.int .u8 t21_0) ∧
              ∃ (t21_1 : Int),
              w__3.cell? ⟨w.heap.size, 1, none⟩ = some (.int .i64 t21_1) ∧
              ∃ (t21_2 : Int),
              w__3.cell? ⟨w.heap.size, 2, none⟩ = some (.int .i64 t21_2) ∧
              ∃ (t21_3 : Int),
              w__3.cell? ⟨w.heap.size, 3, none⟩ = some (.int .i64 t21_3) ∧
              ∃ (t21_4 : Int),
              w__3.cell? ⟨w.heap.size, 4, none⟩ = some (.int .i64 t21_4) ∧
              ∃ (t21_5 : Int),
              w__3.cell? ⟨w.heap.size, 5, none⟩ = some (.int .i64 t21_5) ∧
              Calls Try.prog 13 ⟨[(.agg ⟨[(.int .u8 t21_0), (.int .i64 t21_1), (.int .i64 t21_2), (.int .i64 t21_3), (.int .i64 t21_4), (.int .i64 t21_5)]⟩)]⟩ w__3 fun e w__4 =>
                ∃ (t22 : Bool),
                e = .returned (.bool t22) ∧
                cond (t20 == t22) (
                  (
                    ∃ (t27 : ByteArray) (w__5 : World),
                    (convert 24 9 (.slice t9_0_a t9_0_l t9_0_c)).run Try.prog w__4 = .ok (.string t27) w__5 ∧
                    ∃ (t29 : ByteArray) (w__6 : World),
                    (convert 24 9 (.slice t14_0_a t14_0_l t14_0_c)).run Try.prog w__5 = .ok (.string t29) w__6 ∧
                    cond (decide ((t27 : ByteArray) = t29)) (
                      R (.bool (decide ((t9_1 : Int) = t14_1))) w__6
                    ) (
                      R (.bool false) w__6
                    )
                  ) ∧
                  (
                    ∃ (t29_1 : ByteArray) (w__7 : World),
                    (convert 24 9 (.slice t14_0_a t14_0_l t14_0_c)).run Try.prog w__4 = .ok (.string t29_1) w__7 ∧
                    ∃ (t27_1 : ByteArray) (w__8 : World),
                    (convert 24 9 (.slice t9_0_a t9_0_l t9_0_c)).run Try.prog w__7 = .ok (.string t27_1) w__8 ∧
                    cond (decide ((t27_1 : ByteArray) = t29_1)) (
                      R (.bool (decide ((t9_1 : Int) = t14_1))) w__8
                    ) (
                      R (.bool false) w__8
                    )
                  )
                ) (
                  (
                    R (.bool false) w__4
                  ) ∧
                  (
                    R (.bool false) w__4
                  )
                )
          ) ∧
          (
            ∃ (t21_0_1 : Int),
            w__2.cell? ⟨w.heap.size, 0, none⟩ = some (.int .u8 t21_0_1) ∧
            ∃ (t21_1_1 : Int),
            w__2.cell? ⟨w.heap.size, 1, none⟩ = some (.int .i64 t21_1_1) ∧
            ∃ (t21_2_1 : Int),
            w__2.cell? ⟨w.heap.size, 2, none⟩ = some (.int .i64 t21_2_1) ∧
            ∃ (t21_3_1 : Int),
            w__2.cell? ⟨w.heap.size, 3, none⟩ = some (.int .i64 t21_3_1) ∧
            ∃ (t21_4_1 : Int),
            w__2.cell? ⟨w.heap.size, 4, none⟩ = some (.int .i64 t21_4_1) ∧
            ∃ (t21_5_1 : Int),
            w__2.cell? ⟨w.heap.size, 5, none⟩ = some (.int .i64 t21_5_1) ∧
            Calls Try.prog 12 ⟨[(.agg ⟨[(.int .u8 t19_0), (.int .i64 t19_1), (.int .i64 t19_2), (.int .i64 t19_3), (.int .i64 t19_4), (.int .i64 t19_5)]⟩)]⟩ w__2 fun e w__9 =>
              ∃ (t20_1 : Bool),
              e = .returned (.bool t20_1) ∧
              Calls Try.prog 13 ⟨[(.agg ⟨[(.int .u8 t21_0_1), (.int .i64 t21_1_1), (.int .i64 t21_2_1), (.int .i64 t21_3_1), (.int .i64 t21_4_1), (.int .i64 t21_5_1)]⟩)]⟩ w__9 fun e w__10 =>
                ∃ (t22_1 : Bool),
                e = .returned (.bool t22_1) ∧
                cond (t20_1 == t22_1) (
                  (
                    ∃ (t27_2 : ByteArray) (w__11 : World),
                    (convert 24 9 (.slice t9_0_a t9_0_l t9_0_c)).run Try.prog w__10 = .ok (.string t27_2) w__11 ∧
                    ∃ (t29_2 : ByteArray) (w__12 : World),
                    (convert 24 9 (.slice t14_0_a t14_0_l t14_0_c)).run Try.prog w__11 = .ok (.string t29_2) w__12 ∧
                    cond (decide ((t27_2 : ByteArray) = t29_2)) (
                      R (.bool (decide ((t9_1 : Int) = t14_1))) w__12
                    ) (
                      R (.bool false) w__12
                    )
                  ) ∧
                  (
                    ∃ (t29_3 : ByteArray) (w__13 : World),
                    (convert 24 9 (.slice t14_0_a t14_0_l t14_0_c)).run Try.prog w__10 = .ok (.string t29_3) w__13 ∧
                    ∃ (t27_3 : ByteArray) (w__14 : World),
                    (convert 24 9 (.slice t9_0_a t9_0_l t9_0_c)).run Try.prog w__13 = .ok (.string t27_3) w__14 ∧
                    cond (decide ((t27_3 : ByteArray) = t29_3)) (
                      R (.bool (decide ((t9_1 : Int) = t14_1))) w__14
                    ) (
                      R (.bool false) w__14
                    )
                  )
                ) (
                  (
                    R (.bool false) w__10
                  ) ∧
                  (
                    R (.bool false) w__10
                  )
                )
          )
        ) (
          (
            (
              R (.bool false) w__2
            ) ∧
            (
              R (.bool false) w__2
            )
          ) ∧
          (
            (
              R (.bool false) w__2
            ) ∧
            (
              R (.bool false) w__2
            )
          )
        )

theorem S3_eq (r_0 : Int) (r_1 : Int) (r_2 : Int) (r_3 : Int) (r_4 : Int) (r_5 : Int) (w : World) (R : Value → World → Prop) : Eng.R Try.prog ⟨cal, S3_nx⟩ 37 S3_ann [] (Try.f3.body.getD .skip) (bodyQ Try.prog #[.tmp 2] R) (argE [(.agg ⟨[(.int .u8 r_0), (.int .i64 r_1), (.int .i64 r_2), (.int .i64 r_3), (.int .i64 r_4), (.int .i64 r_5)]⟩)]) w = S3 r_0 r_1 r_2 r_3 r_4 r_5 w R := by kernel_rfl
/-- A call of 'carfax/carfaxlaw17.RecordLays', by its condition. -/
theorem S3_calls {r_0 : Int} {r_1 : Int} {r_2 : Int} {r_3 : Int} {r_4 : Int} {r_5 : Int} {w : World} {R : Value → World → Prop} (hS : S3 r_0 r_1 r_2 r_3 r_4 r_5 w R) : Ret Try.prog 3 [(.agg ⟨[(.int .u8 r_0), (.int .i64 r_1), (.int .i64 r_2), (.int .i64 r_3), (.int .i64 r_4), (.int .i64 r_5)]⟩)] w R :=
  R_calls (C := ⟨cal, S3_nx⟩) cal_ok follows Try.func3 (c := Try.f3.body.getD .skip) (res := #[.tmp 2]) (n := 37) (by kernel_rfl) (by kernel_rfl) (by kernel_rfl) (by kernel_rfl) ((S3_eq r_0 r_1 r_2 r_3 r_4 r_5 w R).mpr hS)

def S4_ann (p : List Nat) : Option LA := match p with
  | [0, 1, 0, 1, 0, 1, 0, 1, 1, 1, 1, 1, 1] => some ⟨[1, 3, 4, 5], [(6, .one (.int .i64)), (7, .one (.int .i64))]⟩
  | _ => none

def S4_nx (t : Nat) : Option (TypeId × TypeId) := none

def S4_k4 (r : Addr) (head : Bool) (b_a : Option Addr) (b_l : Nat) (b_c : Nat) (e_1 : Int) (bits : Int) (m : Int) (w : World) (R : Value → World → Prop) (B1 : (Int) × (Int) × Unit → World → Prop) : Prop :=
  (2 : Int) ≠ 0 ∧
  B1 ((IntKind.i64.wrap (bits + 2)), (IntKind.i64.wrap (Int.tdiv m 2)), ()) w

def S4_k6 (head : Bool) (b_a : Option Addr) (b_l : Nat) (b_c : Nat) (e_1 : Int) (bits : Int) (w : World) (R : Value → World → Prop) : Prop :=
  cond head (
    cond (decide ((e_1 : Int) = 0)) (
      (8 : Int) ≠ 0 ∧
      R (.bool (decide ((((b_l : Nat) : Int) : Int) = (IntKind.i64.wrap (Int.tdiv (IntKind.i64.wrap (bits + 7)) 8))))) w
    ) (
      R (.bool false) w
    )
  ) (
    R (.bool false) w
  )

def S4_k5 (r : Addr) (head : Bool) (b_a : Option Addr) (b_l : Nat) (b_c : Nat) (e_1 : Int) (bits : Int) (w : World) (R : Value → World → Prop) : Prop :=
  ∃ (t39 : Int),
  w.cell? r = some (.int .u8 t39) ∧
  cond (decide ((t39 : Int) = 3)) (
    S4_k6 head b_a b_l b_c e_1 (IntKind.i64.wrap (bits + 3)) w R
  ) (
    S4_k6 head b_a b_l b_c e_1 bits w R
  )

def S4_L3 (r : Addr) (head : Bool) (b_a : Option Addr) (b_l : Nat) (b_c : Nat) (e_1 : Int) (bits : Int) (m : Int) (w : World) (R : Value → World → Prop) (B1 : (Int) × (Int) × Unit → World → Prop) : Prop :=
  cond (decide ((1 : Int) < m)) (
    S4_k4 r head b_a b_l b_c e_1 bits m w R B1
  ) (
    S4_k5 r head b_a b_l b_c e_1 bits w R
  )

def S4_k2 (r : Addr) (head : Bool) (b_a : Option Addr) (b_l : Nat) (b_c : Nat) (e_1 : Int) (bits : Int) (t28 : Bool) (w : World) (R : Value → World → Prop) : Prop :=
  cond t28 (
    ∃ (t30 : Int),
    w.cell? (r.add 1) = some (.int .i64 t30) ∧
    ∃ (I : (Int) × (Int) × Unit → World → Prop) (μ : (Int) × (Int) × Unit → World → Nat),
    I (4, (IntKind.i64.wrap (t30 + 1)), ()) w ∧
    ∀ (J : Env) (s : (Int) × (Int) × Unit) (w' : World), I s w' →
      S4_L3 r head b_a b_l b_c e_1 s.1 s.2.1 w' R (fun s' w'' => I s' w'' ∧ μ s' w'' < μ s w')
  ) (
    S4_k6 head b_a b_l b_c e_1 bits w R
  )

def S4_k1 (r : Addr) (head : Bool) (b_a : Option Addr) (b_l : Nat) (b_c : Nat) (e_1 : Int) (bits : Int) (w : World) (R : Value → World → Prop) : Prop :=
  ∃ (t22 : Int),
  w.cell? r = some (.int .u8 t22) ∧
  cond (decide ((t22 : Int) = 2)) (
    S4_k2 r head b_a b_l b_c e_1 bits true w R
  ) (
    ∃ (t26 : Int),
    w.cell? r = some (.int .u8 t26) ∧
    S4_k2 r head b_a b_l b_c e_1 bits (decide ((t26 : Int) = 3)) w R
  )

def S4_k0 (r : Addr) (head : Bool) (w : World) (R : Value → World → Prop) : Prop :=
  ∃ (t14_0 : Int),
  w.cell? r = some (.int .u8 t14_0) ∧
  ∃ (t14_1 : Int),
  w.cell? (r.add 1) = some (.int .i64 t14_1) ∧
  ∃ (t14_2 : Int),
  w.cell? (r.add 2) = some (.int .i64 t14_2) ∧
  ∃ (t14_3 : Int),
  w.cell? (r.add 3) = some (.int .i64 t14_3) ∧
  ∃ (t14_4 : Int),
  w.cell? (r.add 4) = some (.int .i64 t14_4) ∧
  ∃ (t14_5 : Int),
  w.cell? (r.add 5) = some (.int .i64 t14_5) ∧
  Calls Try.prog 9 ⟨[(.agg ⟨[(.int .u8 t14_0), (.int .i64 t14_1), (.int .i64 t14_2), (.int .i64 t14_3), (.int .i64 t14_4), (.int .i64 t14_5)]⟩)]⟩ w fun e w_ =>
    ∃ (t15_0_a : Option Addr) (t15_0_l : Nat) (t15_0_c : Nat) (t15_1 : Int),
    e = .returned (.tuple ⟨[(.slice t15_0_a t15_0_l t15_0_c), (.int .i64 t15_1)]⟩) ∧
    ∃ (t19 : Int),
    w_.cell? r = some (.int .u8 t19) ∧
    cond (decide ((t19 : Int) = 1)) (
      S4_k1 r head t15_0_a t15_0_l t15_0_c t15_1 20 w_ R
    ) (
      S4_k1 r head t15_0_a t15_0_l t15_0_c t15_1 6 w_ R
    )

def S4 (r_0 : Int) (r_1 : Int) (r_2 : Int) (r_3 : Int) (r_4 : Int) (r_5 : Int) (w : World) (R : Value → World → Prop) : Prop :=
  Calls Try.prog 11 ⟨[]⟩ (w.alloc (.cells ⟨[(.int .u8 r_0), (.int .i64 r_1), (.int .i64 r_2), (.int .i64 r_3), (.int .i64 r_4), (.int .i64 r_5)]⟩ 23)) fun e w_ =>
    ∃ (t8 : Bool),
    e = .returned (.bool t8) ∧
    ∃ (t9_0 : Int),
    w_.cell? ⟨w.heap.size, 0, none⟩ = some (.int .u8 t9_0) ∧
    ∃ (t9_1 : Int),
    w_.cell? ⟨w.heap.size, 1, none⟩ = some (.int .i64 t9_1) ∧
    ∃ (t9_2 : Int),
    w_.cell? ⟨w.heap.size, 2, none⟩ = some (.int .i64 t9_2) ∧
    ∃ (t9_3 : Int),
    w_.cell? ⟨w.heap.size, 3, none⟩ = some (.int .i64 t9_3) ∧
    ∃ (t9_4 : Int),
    w_.cell? ⟨w.heap.size, 4, none⟩ = some (.int .i64 t9_4) ∧
    ∃ (t9_5 : Int),
    w_.cell? ⟨w.heap.size, 5, none⟩ = some (.int .i64 t9_5) ∧
    Calls Try.prog 12 ⟨[(.agg ⟨[(.int .u8 t9_0), (.int .i64 t9_1), (.int .i64 t9_2), (.int .i64 t9_3), (.int .i64 t9_4), (.int .i64 t9_5)]⟩)]⟩ w_ fun e w__1 =>
      ∃ (t10 : Bool),
      e = .returned (.bool t10) ∧
      cond (!t10) (
        R (.bool t8) w__1
      ) (
        S4_k0 ⟨w.heap.size, 0, none⟩ t8 w__1 R
      )

theorem S4_eq (r_0 : Int) (r_1 : Int) (r_2 : Int) (r_3 : Int) (r_4 : Int) (r_5 : Int) (w : World) (R : Value → World → Prop) : Eng.R Try.prog ⟨cal, S4_nx⟩ 56 S4_ann [] (Try.f4.body.getD .skip) (bodyQ Try.prog #[.tmp 2] R) (argE [(.agg ⟨[(.int .u8 r_0), (.int .i64 r_1), (.int .i64 r_2), (.int .i64 r_3), (.int .i64 r_4), (.int .i64 r_5)]⟩)]) w = S4 r_0 r_1 r_2 r_3 r_4 r_5 w R := by kernel_rfl
/-- A call of 'carfax/carfaxlaw17.RecordLong', by its condition. -/
theorem S4_calls {r_0 : Int} {r_1 : Int} {r_2 : Int} {r_3 : Int} {r_4 : Int} {r_5 : Int} {w : World} {R : Value → World → Prop} (hS : S4 r_0 r_1 r_2 r_3 r_4 r_5 w R) : Ret Try.prog 4 [(.agg ⟨[(.int .u8 r_0), (.int .i64 r_1), (.int .i64 r_2), (.int .i64 r_3), (.int .i64 r_4), (.int .i64 r_5)]⟩)] w R :=
  R_calls (C := ⟨cal, S4_nx⟩) cal_ok follows Try.func4 (c := Try.f4.body.getD .skip) (res := #[.tmp 2]) (n := 56) (by kernel_rfl) (by kernel_rfl) (by kernel_rfl) (by kernel_rfl) ((S4_eq r_0 r_1 r_2 r_3 r_4 r_5 w R).mpr hS)

def S5_ann (p : List Nat) : Option LA :=
  none

def S5_nx (t : Nat) : Option (TypeId × TypeId) := none

def S5 (x_0 : Int) (x_1 : Int) (x_2 : Int) (w : World) (R : Value → World → Prop) : Prop :=
  ∃ (t10_0 : Int),
  (w.alloc (.cells ⟨[(.int .u8 x_0), (.int .i64 x_1), (.int .i64 x_2)]⟩ 31)).cell? ⟨w.heap.size, 0, none⟩ = some (.int .u8 t10_0) ∧
  ∃ (t10_1 : Int),
  (w.alloc (.cells ⟨[(.int .u8 x_0), (.int .i64 x_1), (.int .i64 x_2)]⟩ 31)).cell? ⟨w.heap.size, 1, none⟩ = some (.int .i64 t10_1) ∧
  ∃ (t10_2 : Int),
  (w.alloc (.cells ⟨[(.int .u8 x_0), (.int .i64 x_1), (.int .i64 x_2)]⟩ 31)).cell? ⟨w.heap.size, 2, none⟩ = some (.int .i64 t10_2) ∧
  Calls Try.prog 14 ⟨[(.agg ⟨[(.int .u8 t10_0), (.int .i64 t10_1), (.int .i64 t10_2)]⟩)]⟩ (w.alloc (.cells ⟨[(.int .u8 x_0), (.int .i64 x_1), (.int .i64 x_2)]⟩ 31)) fun e w_ =>
    ∃ (t11_0_a : Option Addr) (t11_0_l : Nat) (t11_0_c : Nat) (t11_1 : Int),
    e = .returned (.tuple ⟨[(.slice t11_0_a t11_0_l t11_0_c), (.int .i64 t11_1)]⟩) ∧
    ∃ (t15_0 : Int),
    w_.cell? ⟨w.heap.size, 0, none⟩ = some (.int .u8 t15_0) ∧
    ∃ (t15_1 : Int),
    w_.cell? ⟨w.heap.size, 1, none⟩ = some (.int .i64 t15_1) ∧
    ∃ (t15_2 : Int),
    w_.cell? ⟨w.heap.size, 2, none⟩ = some (.int .i64 t15_2) ∧
    Calls Try.prog 15 ⟨[(.agg ⟨[(.int .u8 t15_0), (.int .i64 t15_1), (.int .i64 t15_2)]⟩)]⟩ w_ fun e w__1 =>
      ∃ (t16_0_a : Option Addr) (t16_0_l : Nat) (t16_0_c : Nat) (t16_1 : Int),
      e = .returned (.tuple ⟨[(.slice t16_0_a t16_0_l t16_0_c), (.int .i64 t16_1)]⟩) ∧
      Calls Try.prog 16 ⟨[(.slice t11_0_a t11_0_l t11_0_c)]⟩ w__1 fun e w__2 =>
        ∃ (t21_0_0 : Int) (t21_0_1 : Int) (t21_0_2 : Int) (t21_1 : Int),
        e = .returned (.tuple ⟨[(.agg ⟨[(.int .u8 t21_0_0), (.int .i64 t21_0_1), (.int .i64 t21_0_2)]⟩), (.int .i64 t21_1)]⟩) ∧
        (∃ u, (w__2.alloc (.cells ⟨[(.int .u8 0), (.int .i64 0), (.int .i64 0)]⟩ 31)).cell? ⟨w__2.heap.size, 0, none⟩ = some u) ∧
        (w__2.alloc (.cells ⟨[(.int .u8 0), (.int .i64 0), (.int .i64 0)]⟩ 31)).frozen? ⟨w__2.heap.size, 0, none⟩ = false ∧
        (∃ u, ((w__2.alloc (.cells ⟨[(.int .u8 0), (.int .i64 0), (.int .i64 0)]⟩ 31)).setCell ⟨w__2.heap.size, 0, none⟩ (.int .u8 t21_0_0)).cell? ⟨w__2.heap.size, 1, none⟩ = some u) ∧
        ((w__2.alloc (.cells ⟨[(.int .u8 0), (.int .i64 0), (.int .i64 0)]⟩ 31)).setCell ⟨w__2.heap.size, 0, none⟩ (.int .u8 t21_0_0)).frozen? ⟨w__2.heap.size, 1, none⟩ = false ∧
        (∃ u, (((w__2.alloc (.cells ⟨[(.int .u8 0), (.int .i64 0), (.int .i64 0)]⟩ 31)).setCell ⟨w__2.heap.size, 0, none⟩ (.int .u8 t21_0_0)).setCell ⟨w__2.heap.size, 1, none⟩ (.int .i64 t21_0_1)).cell? ⟨w__2.heap.size, 2, none⟩ = some u) ∧
        (((w__2.alloc (.cells ⟨[(.int .u8 0), (.int .i64 0), (.int .i64 0)]⟩ 31)).setCell ⟨w__2.heap.size, 0, none⟩ (.int .u8 t21_0_0)).setCell ⟨w__2.heap.size, 1, none⟩ (.int .i64 t21_0_1)).frozen? ⟨w__2.heap.size, 2, none⟩ = false ∧
        Calls Try.prog 11 ⟨[]⟩ ((((w__2.alloc (.cells ⟨[(.int .u8 0), (.int .i64 0), (.int .i64 0)]⟩ 31)).setCell ⟨w__2.heap.size, 0, none⟩ (.int .u8 t21_0_0)).setCell ⟨w__2.heap.size, 1, none⟩ (.int .i64 t21_0_1)).setCell ⟨w__2.heap.size, 2, none⟩ (.int .i64 t21_0_2)) fun e w__3 =>
          ∃ (t24 : Bool),
          e = .returned (.bool t24) ∧
          cond t24 (
            ∃ (t27 : ByteArray) (w__4 : World),
            (convert 24 9 (.slice t11_0_a t11_0_l t11_0_c)).run Try.prog w__3 = .ok (.string t27) w__4 ∧
            ∃ (t29 : ByteArray) (w__5 : World),
            (convert 24 9 (.slice t16_0_a t16_0_l t16_0_c)).run Try.prog w__4 = .ok (.string t29) w__5 ∧
            cond (decide ((t27 : ByteArray) = t29)) (
              cond (decide ((t11_1 : Int) = t16_1)) (
                cond (decide ((t11_1 : Int) = 0)) (
                  cond (decide ((t21_1 : Int) = 0)) (
                    ∃ (t45_0 : Int),
                    w__5.cell? ⟨w__2.heap.size, 0, none⟩ = some (.int .u8 t45_0) ∧
                    ∃ (t45_1 : Int),
                    w__5.cell? ⟨w__2.heap.size, 1, none⟩ = some (.int .i64 t45_1) ∧
                    ∃ (t45_2 : Int),
                    w__5.cell? ⟨w__2.heap.size, 2, none⟩ = some (.int .i64 t45_2) ∧
                    ∃ (t46_0 : Int),
                    w__5.cell? ⟨w.heap.size, 0, none⟩ = some (.int .u8 t46_0) ∧
                    ∃ (t46_1 : Int),
                    w__5.cell? ⟨w.heap.size, 1, none⟩ = some (.int .i64 t46_1) ∧
                    ∃ (t46_2 : Int),
                    w__5.cell? ⟨w.heap.size, 2, none⟩ = some (.int .i64 t46_2) ∧
                    ∃ (t47 : Bool) (w__6 : World),
                    (do eqGuard .eql 31 (.tmp 45) (.tmp 46) (.agg ⟨[(.int .u8 t45_0), (.int .i64 t45_1), (.int .i64 t45_2)]⟩) (.agg ⟨[(.int .u8 t46_0), (.int .i64 t46_1), (.int .i64 t46_2)]⟩); binOp .eql 31 (.agg ⟨[(.int .u8 t45_0), (.int .i64 t45_1), (.int .i64 t45_2)]⟩) (.agg ⟨[(.int .u8 t46_0), (.int .i64 t46_1), (.int .i64 t46_2)]⟩)).run Try.prog w__5 = .ok (.bool t47) w__6 ∧
                    cond t47 (
                      R (.bool true) w__6
                    ) (
                      cond (decide ((t11_1 : Int) = 1)) (
                        R (.bool (decide ((((t11_0_l : Nat) : Int) : Int) = 0))) w__6
                      ) (
                        R (.bool false) w__6
                      )
                    )
                  ) (
                    cond (decide ((t11_1 : Int) = 1)) (
                      R (.bool (decide ((((t11_0_l : Nat) : Int) : Int) = 0))) w__5
                    ) (
                      R (.bool false) w__5
                    )
                  )
                ) (
                  cond (decide ((t11_1 : Int) = 1)) (
                    R (.bool (decide ((((t11_0_l : Nat) : Int) : Int) = 0))) w__5
                  ) (
                    R (.bool false) w__5
                  )
                )
              ) (
                R (.bool false) w__5
              )
            ) (
              R (.bool false) w__5
            )
          ) (
            R (.bool false) w__3
          )

theorem S5_eq (x_0 : Int) (x_1 : Int) (x_2 : Int) (w : World) (R : Value → World → Prop) : Eng.R Try.prog ⟨cal, S5_nx⟩ 59 S5_ann [] (Try.f5.body.getD .skip) (bodyQ Try.prog #[.tmp 2] R) (argE [(.agg ⟨[(.int .u8 x_0), (.int .i64 x_1), (.int .i64 x_2)]⟩)]) w = S5 x_0 x_1 x_2 w R := by kernel_rfl
/-- A call of 'carfax/carfaxlaw17.RecordActs', by its condition. -/
theorem S5_calls {x_0 : Int} {x_1 : Int} {x_2 : Int} {w : World} {R : Value → World → Prop} (hS : S5 x_0 x_1 x_2 w R) : Ret Try.prog 5 [(.agg ⟨[(.int .u8 x_0), (.int .i64 x_1), (.int .i64 x_2)]⟩)] w R :=
  R_calls (C := ⟨cal, S5_nx⟩) cal_ok follows Try.func5 (c := Try.f5.body.getD .skip) (res := #[.tmp 2]) (n := 59) (by kernel_rfl) (by kernel_rfl) (by kernel_rfl) (by kernel_rfl) ((S5_eq x_0 x_1 x_2 w R).mpr hS)

def S6_ann (p : List Nat) : Option LA :=
  none

def S6_nx (t : Nat) : Option (TypeId × TypeId) := none

def S6_k2 (b_a : Option Addr) (b_l : Nat) (b_c : Nat) (head : Bool) (w : World) (R : Value → World → Prop) : Prop :=
  Calls Try.prog 17 ⟨[(.slice b_a b_l b_c)]⟩ w fun e w_ =>
    ∃ (t58_0_0 : Int) (t58_0_1 : Int) (t58_0_2 : Int) (t58_0_3 : Int) (t58_0_4 : Int) (t58_0_5 : Int) (t58_1 : Int),
    e = .returned (.tuple ⟨[(.agg ⟨[(.int .u8 t58_0_0), (.int .i64 t58_0_1), (.int .i64 t58_0_2), (.int .i64 t58_0_3), (.int .i64 t58_0_4), (.int .i64 t58_0_5)]⟩), (.int .i64 t58_1)]⟩) ∧
    (∃ u, (w_.alloc (.cells ⟨[(.int .u8 0), (.int .i64 0), (.int .i64 0), (.int .i64 0), (.int .i64 0), (.int .i64 0)]⟩ 23)).cell? ⟨w_.heap.size, 0, none⟩ = some u) ∧
    (w_.alloc (.cells ⟨[(.int .u8 0), (.int .i64 0), (.int .i64 0), (.int .i64 0), (.int .i64 0), (.int .i64 0)]⟩ 23)).frozen? ⟨w_.heap.size, 0, none⟩ = false ∧
    (∃ u, ((w_.alloc (.cells ⟨[(.int .u8 0), (.int .i64 0), (.int .i64 0), (.int .i64 0), (.int .i64 0), (.int .i64 0)]⟩ 23)).setCell ⟨w_.heap.size, 0, none⟩ (.int .u8 t58_0_0)).cell? ⟨w_.heap.size, 1, none⟩ = some u) ∧
    ((w_.alloc (.cells ⟨[(.int .u8 0), (.int .i64 0), (.int .i64 0), (.int .i64 0), (.int .i64 0), (.int .i64 0)]⟩ 23)).setCell ⟨w_.heap.size, 0, none⟩ (.int .u8 t58_0_0)).frozen? ⟨w_.heap.size, 1, none⟩ = false ∧
    (∃ u, (((w_.alloc (.cells ⟨[(.int .u8 0), (.int .i64 0), (.int .i64 0), (.int .i64 0), (.int .i64 0), (.int .i64 0)]⟩ 23)).setCell ⟨w_.heap.size, 0, none⟩ (.int .u8 t58_0_0)).setCell ⟨w_.heap.size, 1, none⟩ (.int .i64 t58_0_1)).cell? ⟨w_.heap.size, 2, none⟩ = some u) ∧
    (((w_.alloc (.cells ⟨[(.int .u8 0), (.int .i64 0), (.int .i64 0), (.int .i64 0), (.int .i64 0), (.int .i64 0)]⟩ 23)).setCell ⟨w_.heap.size, 0, none⟩ (.int .u8 t58_0_0)).setCell ⟨w_.heap.size, 1, none⟩ (.int .i64 t58_0_1)).frozen? ⟨w_.heap.size, 2, none⟩ = false ∧
    (∃ u, ((((w_.alloc (.cells ⟨[(.int .u8 0), (.int .i64 0), (.int .i64 0), (.int .i64 0), (.int .i64 0), (.int .i64 0)]⟩ 23)).setCell ⟨w_.heap.size, 0, none⟩ (.int .u8 t58_0_0)).setCell ⟨w_.heap.size, 1, none⟩ (.int .i64 t58_0_1)).setCell ⟨w_.heap.size, 2, none⟩ (.int .i64 t58_0_2)).cell? ⟨w_.heap.size, 3, none⟩ = some u) ∧
    ((((w_.alloc (.cells ⟨[(.int .u8 0), (.int .i64 0), (.int .i64 0), (.int .i64 0), (.int .i64 0), (.int .i64 0)]⟩ 23)).setCell ⟨w_.heap.size, 0, none⟩ (.int .u8 t58_0_0)).setCell ⟨w_.heap.size, 1, none⟩ (.int .i64 t58_0_1)).setCell ⟨w_.heap.size, 2, none⟩ (.int .i64 t58_0_2)).frozen? ⟨w_.heap.size, 3, none⟩ = false ∧
    (∃ u, (((((w_.alloc (.cells ⟨[(.int .u8 0), (.int .i64 0), (.int .i64 0), (.int .i64 0), (.int .i64 0), (.int .i64 0)]⟩ 23)).setCell ⟨w_.heap.size, 0, none⟩ (.int .u8 t58_0_0)).setCell ⟨w_.heap.size, 1, none⟩ (.int .i64 t58_0_1)).setCell ⟨w_.heap.size, 2, none⟩ (.int .i64 t58_0_2)).setCell ⟨w_.heap.size, 3, none⟩ (.int .i64 t58_0_3)).cell? ⟨w_.heap.size, 4, none⟩ = some u) ∧
    (((((w_.alloc (.cells ⟨[(.int .u8 0), (.int .i64 0), (.int .i64 0), (.int .i64 0), (.int .i64 0), (.int .i64 0)]⟩ 23)).setCell ⟨w_.heap.size, 0, none⟩ (.int .u8 t58_0_0)).setCell ⟨w_.heap.size, 1, none⟩ (.int .i64 t58_0_1)).setCell ⟨w_.heap.size, 2, none⟩ (.int .i64 t58_0_2)).setCell ⟨w_.heap.size, 3, none⟩ (.int .i64 t58_0_3)).frozen? ⟨w_.heap.size, 4, none⟩ = false ∧
    (∃ u, ((((((w_.alloc (.cells ⟨[(.int .u8 0), (.int .i64 0), (.int .i64 0), (.int .i64 0), (.int .i64 0), (.int .i64 0)]⟩ 23)).setCell ⟨w_.heap.size, 0, none⟩ (.int .u8 t58_0_0)).setCell ⟨w_.heap.size, 1, none⟩ (.int .i64 t58_0_1)).setCell ⟨w_.heap.size, 2, none⟩ (.int .i64 t58_0_2)).setCell ⟨w_.heap.size, 3, none⟩ (.int .i64 t58_0_3)).setCell ⟨w_.heap.size, 4, none⟩ (.int .i64 t58_0_4)).cell? ⟨w_.heap.size, 5, none⟩ = some u) ∧
    ((((((w_.alloc (.cells ⟨[(.int .u8 0), (.int .i64 0), (.int .i64 0), (.int .i64 0), (.int .i64 0), (.int .i64 0)]⟩ 23)).setCell ⟨w_.heap.size, 0, none⟩ (.int .u8 t58_0_0)).setCell ⟨w_.heap.size, 1, none⟩ (.int .i64 t58_0_1)).setCell ⟨w_.heap.size, 2, none⟩ (.int .i64 t58_0_2)).setCell ⟨w_.heap.size, 3, none⟩ (.int .i64 t58_0_3)).setCell ⟨w_.heap.size, 4, none⟩ (.int .i64 t58_0_4)).frozen? ⟨w_.heap.size, 5, none⟩ = false ∧
    ∃ (t62_0 : Int),
    (((((((w_.alloc (.cells ⟨[(.int .u8 0), (.int .i64 0), (.int .i64 0), (.int .i64 0), (.int .i64 0), (.int .i64 0)]⟩ 23)).setCell ⟨w_.heap.size, 0, none⟩ (.int .u8 t58_0_0)).setCell ⟨w_.heap.size, 1, none⟩ (.int .i64 t58_0_1)).setCell ⟨w_.heap.size, 2, none⟩ (.int .i64 t58_0_2)).setCell ⟨w_.heap.size, 3, none⟩ (.int .i64 t58_0_3)).setCell ⟨w_.heap.size, 4, none⟩ (.int .i64 t58_0_4)).setCell ⟨w_.heap.size, 5, none⟩ (.int .i64 t58_0_5)).cell? ⟨w_.heap.size, 0, none⟩ = some (.int .u8 t62_0) ∧
    ∃ (t62_1 : Int),
    (((((((w_.alloc (.cells ⟨[(.int .u8 0), (.int .i64 0), (.int .i64 0), (.int .i64 0), (.int .i64 0), (.int .i64 0)]⟩ 23)).setCell ⟨w_.heap.size, 0, none⟩ (.int .u8 t58_0_0)).setCell ⟨w_.heap.size, 1, none⟩ (.int .i64 t58_0_1)).setCell ⟨w_.heap.size, 2, none⟩ (.int .i64 t58_0_2)).setCell ⟨w_.heap.size, 3, none⟩ (.int .i64 t58_0_3)).setCell ⟨w_.heap.size, 4, none⟩ (.int .i64 t58_0_4)).setCell ⟨w_.heap.size, 5, none⟩ (.int .i64 t58_0_5)).cell? ⟨w_.heap.size, 1, none⟩ = some (.int .i64 t62_1) ∧
    ∃ (t62_2 : Int),
    (((((((w_.alloc (.cells ⟨[(.int .u8 0), (.int .i64 0), (.int .i64 0), (.int .i64 0), (.int .i64 0), (.int .i64 0)]⟩ 23)).setCell ⟨w_.heap.size, 0, none⟩ (.int .u8 t58_0_0)).setCell ⟨w_.heap.size, 1, none⟩ (.int .i64 t58_0_1)).setCell ⟨w_.heap.size, 2, none⟩ (.int .i64 t58_0_2)).setCell ⟨w_.heap.size, 3, none⟩ (.int .i64 t58_0_3)).setCell ⟨w_.heap.size, 4, none⟩ (.int .i64 t58_0_4)).setCell ⟨w_.heap.size, 5, none⟩ (.int .i64 t58_0_5)).cell? ⟨w_.heap.size, 2, none⟩ = some (.int .i64 t62_2) ∧
    ∃ (t62_3 : Int),
    (((((((w_.alloc (.cells ⟨[(.int .u8 0), (.int .i64 0), (.int .i64 0), (.int .i64 0), (.int .i64 0), (.int .i64 0)]⟩ 23)).setCell ⟨w_.heap.size, 0, none⟩ (.int .u8 t58_0_0)).setCell ⟨w_.heap.size, 1, none⟩ (.int .i64 t58_0_1)).setCell ⟨w_.heap.size, 2, none⟩ (.int .i64 t58_0_2)).setCell ⟨w_.heap.size, 3, none⟩ (.int .i64 t58_0_3)).setCell ⟨w_.heap.size, 4, none⟩ (.int .i64 t58_0_4)).setCell ⟨w_.heap.size, 5, none⟩ (.int .i64 t58_0_5)).cell? ⟨w_.heap.size, 3, none⟩ = some (.int .i64 t62_3) ∧
    ∃ (t62_4 : Int),
    (((((((w_.alloc (.cells ⟨[(.int .u8 0), (.int .i64 0), (.int .i64 0), (.int .i64 0), (.int .i64 0), (.int .i64 0)]⟩ 23)).setCell ⟨w_.heap.size, 0, none⟩ (.int .u8 t58_0_0)).setCell ⟨w_.heap.size, 1, none⟩ (.int .i64 t58_0_1)).setCell ⟨w_.heap.size, 2, none⟩ (.int .i64 t58_0_2)).setCell ⟨w_.heap.size, 3, none⟩ (.int .i64 t58_0_3)).setCell ⟨w_.heap.size, 4, none⟩ (.int .i64 t58_0_4)).setCell ⟨w_.heap.size, 5, none⟩ (.int .i64 t58_0_5)).cell? ⟨w_.heap.size, 4, none⟩ = some (.int .i64 t62_4) ∧
    ∃ (t62_5 : Int),
    (((((((w_.alloc (.cells ⟨[(.int .u8 0), (.int .i64 0), (.int .i64 0), (.int .i64 0), (.int .i64 0), (.int .i64 0)]⟩ 23)).setCell ⟨w_.heap.size, 0, none⟩ (.int .u8 t58_0_0)).setCell ⟨w_.heap.size, 1, none⟩ (.int .i64 t58_0_1)).setCell ⟨w_.heap.size, 2, none⟩ (.int .i64 t58_0_2)).setCell ⟨w_.heap.size, 3, none⟩ (.int .i64 t58_0_3)).setCell ⟨w_.heap.size, 4, none⟩ (.int .i64 t58_0_4)).setCell ⟨w_.heap.size, 5, none⟩ (.int .i64 t58_0_5)).cell? ⟨w_.heap.size, 5, none⟩ = some (.int .i64 t62_5) ∧
    Calls Try.prog 9 ⟨[(.agg ⟨[(.int .u8 t62_0), (.int .i64 t62_1), (.int .i64 t62_2), (.int .i64 t62_3), (.int .i64 t62_4), (.int .i64 t62_5)]⟩)]⟩ (((((((w_.alloc (.cells ⟨[(.int .u8 0), (.int .i64 0), (.int .i64 0), (.int .i64 0), (.int .i64 0), (.int .i64 0)]⟩ 23)).setCell ⟨w_.heap.size, 0, none⟩ (.int .u8 t58_0_0)).setCell ⟨w_.heap.size, 1, none⟩ (.int .i64 t58_0_1)).setCell ⟨w_.heap.size, 2, none⟩ (.int .i64 t58_0_2)).setCell ⟨w_.heap.size, 3, none⟩ (.int .i64 t58_0_3)).setCell ⟨w_.heap.size, 4, none⟩ (.int .i64 t58_0_4)).setCell ⟨w_.heap.size, 5, none⟩ (.int .i64 t58_0_5)) fun e w__1 =>
      ∃ (t63_0_a : Option Addr) (t63_0_l : Nat) (t63_0_c : Nat) (t63_1 : Int),
      e = .returned (.tuple ⟨[(.slice t63_0_a t63_0_l t63_0_c), (.int .i64 t63_1)]⟩) ∧
      cond head (
        cond (decide ((t58_1 : Int) = 0)) (
          cond (decide ((t63_1 : Int) = 0)) (
            ∃ (t76 : ByteArray) (w__2 : World),
            (convert 24 9 (.slice t63_0_a t63_0_l t63_0_c)).run Try.prog w__1 = .ok (.string t76) w__2 ∧
            ∃ (t78 : ByteArray) (w__3 : World),
            (convert 24 9 (.slice b_a b_l b_c)).run Try.prog w__2 = .ok (.string t78) w__3 ∧
            cond (decide ((t76 : ByteArray) = t78)) (
              R (.bool true) w__3
            ) (
              cond (decide ((t58_1 : Int) = 170)) (
                ∃ (t85_0 : Int),
                w__3.cell? ⟨w_.heap.size, 0, none⟩ = some (.int .u8 t85_0) ∧
                ∃ (t85_1 : Int),
                w__3.cell? ⟨w_.heap.size, 1, none⟩ = some (.int .i64 t85_1) ∧
                ∃ (t85_2 : Int),
                w__3.cell? ⟨w_.heap.size, 2, none⟩ = some (.int .i64 t85_2) ∧
                ∃ (t85_3 : Int),
                w__3.cell? ⟨w_.heap.size, 3, none⟩ = some (.int .i64 t85_3) ∧
                ∃ (t85_4 : Int),
                w__3.cell? ⟨w_.heap.size, 4, none⟩ = some (.int .i64 t85_4) ∧
                ∃ (t85_5 : Int),
                w__3.cell? ⟨w_.heap.size, 5, none⟩ = some (.int .i64 t85_5) ∧
                ∃ (t87 : Bool) (w__4 : World),
                (do eqGuard .eql 23 (.tmp 85) (.tmp 86) (.agg ⟨[(.int .u8 t85_0), (.int .i64 t85_1), (.int .i64 t85_2), (.int .i64 t85_3), (.int .i64 t85_4), (.int .i64 t85_5)]⟩) (.agg ⟨[(.int .u8 0), (.int .i64 0), (.int .i64 0), (.int .i64 0), (.int .i64 0), (.int .i64 0)]⟩); binOp .eql 23 (.agg ⟨[(.int .u8 t85_0), (.int .i64 t85_1), (.int .i64 t85_2), (.int .i64 t85_3), (.int .i64 t85_4), (.int .i64 t85_5)]⟩) (.agg ⟨[(.int .u8 0), (.int .i64 0), (.int .i64 0), (.int .i64 0), (.int .i64 0), (.int .i64 0)]⟩)).run Try.prog w__3 = .ok (.bool t87) w__4 ∧
                R (.bool t87) w__4
              ) (
                R (.bool false) w__3
              )
            )
          ) (
            cond (decide ((t58_1 : Int) = 170)) (
              ∃ (t85_0_1 : Int),
              w__1.cell? ⟨w_.heap.size, 0, none⟩ = some (.int .u8 t85_0_1) ∧
              ∃ (t85_1_1 : Int),
              w__1.cell? ⟨w_.heap.size, 1, none⟩ = some (.int .i64 t85_1_1) ∧
              ∃ (t85_2_1 : Int),
              w__1.cell? ⟨w_.heap.size, 2, none⟩ = some (.int .i64 t85_2_1) ∧
              ∃ (t85_3_1 : Int),
              w__1.cell? ⟨w_.heap.size, 3, none⟩ = some (.int .i64 t85_3_1) ∧
              ∃ (t85_4_1 : Int),
              w__1.cell? ⟨w_.heap.size, 4, none⟩ = some (.int .i64 t85_4_1) ∧
              ∃ (t85_5_1 : Int),
              w__1.cell? ⟨w_.heap.size, 5, none⟩ = some (.int .i64 t85_5_1) ∧
              ∃ (t87_1 : Bool) (w__5 : World),
              (do eqGuard .eql 23 (.tmp 85) (.tmp 86) (.agg ⟨[(.int .u8 t85_0_1), (.int .i64 t85_1_1), (.int .i64 t85_2_1), (.int .i64 t85_3_1), (.int .i64 t85_4_1), (.int .i64 t85_5_1)]⟩) (.agg ⟨[(.int .u8 0), (.int .i64 0), (.int .i64 0), (.int .i64 0), (.int .i64 0), (.int .i64 0)]⟩); binOp .eql 23 (.agg ⟨[(.int .u8 t85_0_1), (.int .i64 t85_1_1), (.int .i64 t85_2_1), (.int .i64 t85_3_1), (.int .i64 t85_4_1), (.int .i64 t85_5_1)]⟩) (.agg ⟨[(.int .u8 0), (.int .i64 0), (.int .i64 0), (.int .i64 0), (.int .i64 0), (.int .i64 0)]⟩)).run Try.prog w__1 = .ok (.bool t87_1) w__5 ∧
              R (.bool t87_1) w__5
            ) (
              R (.bool false) w__1
            )
          )
        ) (
          cond (decide ((t58_1 : Int) = 170)) (
            ∃ (t85_0_2 : Int),
            w__1.cell? ⟨w_.heap.size, 0, none⟩ = some (.int .u8 t85_0_2) ∧
            ∃ (t85_1_2 : Int),
            w__1.cell? ⟨w_.heap.size, 1, none⟩ = some (.int .i64 t85_1_2) ∧
            ∃ (t85_2_2 : Int),
            w__1.cell? ⟨w_.heap.size, 2, none⟩ = some (.int .i64 t85_2_2) ∧
            ∃ (t85_3_2 : Int),
            w__1.cell? ⟨w_.heap.size, 3, none⟩ = some (.int .i64 t85_3_2) ∧
            ∃ (t85_4_2 : Int),
            w__1.cell? ⟨w_.heap.size, 4, none⟩ = some (.int .i64 t85_4_2) ∧
            ∃ (t85_5_2 : Int),
            w__1.cell? ⟨w_.heap.size, 5, none⟩ = some (.int .i64 t85_5_2) ∧
            ∃ (t87_2 : Bool) (w__6 : World),
            (do eqGuard .eql 23 (.tmp 85) (.tmp 86) (.agg ⟨[(.int .u8 t85_0_2), (.int .i64 t85_1_2), (.int .i64 t85_2_2), (.int .i64 t85_3_2), (.int .i64 t85_4_2), (.int .i64 t85_5_2)]⟩) (.agg ⟨[(.int .u8 0), (.int .i64 0), (.int .i64 0), (.int .i64 0), (.int .i64 0), (.int .i64 0)]⟩); binOp .eql 23 (.agg ⟨[(.int .u8 t85_0_2), (.int .i64 t85_1_2), (.int .i64 t85_2_2), (.int .i64 t85_3_2), (.int .i64 t85_4_2), (.int .i64 t85_5_2)]⟩) (.agg ⟨[(.int .u8 0), (.int .i64 0), (.int .i64 0), (.int .i64 0), (.int .i64 0), (.int .i64 0)]⟩)).run Try.prog w__1 = .ok (.bool t87_2) w__6 ∧
            R (.bool t87_2) w__6
          ) (
            R (.bool false) w__1
          )
        )
      ) (
        R (.bool false) w__1
      )

def S6_k1 (b_a : Option Addr) (b_l : Nat) (b_c : Nat) (head : Bool) (t55 : Bool) (w : World) (R : Value → World → Prop) : Prop :=
  cond t55 (
    R (.bool false) w
  ) (
    S6_k2 b_a b_l b_c head w R
  )

def S6_k0 (b_a : Option Addr) (b_l : Nat) (b_c : Nat) (r : Addr) (head : Bool) (w : World) (R : Value → World → Prop) : Prop :=
  ∃ (t20_0 : Int),
  w.cell? r = some (.int .u8 t20_0) ∧
  ∃ (t20_1 : Int),
  w.cell? (r.add 1) = some (.int .i64 t20_1) ∧
  ∃ (t20_2 : Int),
  w.cell? (r.add 2) = some (.int .i64 t20_2) ∧
  ∃ (t20_3 : Int),
  w.cell? (r.add 3) = some (.int .i64 t20_3) ∧
  ∃ (t20_4 : Int),
  w.cell? (r.add 4) = some (.int .i64 t20_4) ∧
  ∃ (t20_5 : Int),
  w.cell? (r.add 5) = some (.int .i64 t20_5) ∧
  Calls Try.prog 9 ⟨[(.agg ⟨[(.int .u8 t20_0), (.int .i64 t20_1), (.int .i64 t20_2), (.int .i64 t20_3), (.int .i64 t20_4), (.int .i64 t20_5)]⟩)]⟩ w fun e w_ =>
    ∃ (t21_0_a : Option Addr) (t21_0_l : Nat) (t21_0_c : Nat) (t21_1 : Int),
    e = .returned (.tuple ⟨[(.slice t21_0_a t21_0_l t21_0_c), (.int .i64 t21_1)]⟩) ∧
    Calls Try.prog 17 ⟨[(.slice t21_0_a t21_0_l t21_0_c)]⟩ w_ fun e w__1 =>
      ∃ (t26_0_0 : Int) (t26_0_1 : Int) (t26_0_2 : Int) (t26_0_3 : Int) (t26_0_4 : Int) (t26_0_5 : Int) (t26_1 : Int),
      e = .returned (.tuple ⟨[(.agg ⟨[(.int .u8 t26_0_0), (.int .i64 t26_0_1), (.int .i64 t26_0_2), (.int .i64 t26_0_3), (.int .i64 t26_0_4), (.int .i64 t26_0_5)]⟩), (.int .i64 t26_1)]⟩) ∧
      (∃ u, (w__1.alloc (.cells ⟨[(.int .u8 0), (.int .i64 0), (.int .i64 0), (.int .i64 0), (.int .i64 0), (.int .i64 0)]⟩ 23)).cell? ⟨w__1.heap.size, 0, none⟩ = some u) ∧
      (w__1.alloc (.cells ⟨[(.int .u8 0), (.int .i64 0), (.int .i64 0), (.int .i64 0), (.int .i64 0), (.int .i64 0)]⟩ 23)).frozen? ⟨w__1.heap.size, 0, none⟩ = false ∧
      (∃ u, ((w__1.alloc (.cells ⟨[(.int .u8 0), (.int .i64 0), (.int .i64 0), (.int .i64 0), (.int .i64 0), (.int .i64 0)]⟩ 23)).setCell ⟨w__1.heap.size, 0, none⟩ (.int .u8 t26_0_0)).cell? ⟨w__1.heap.size, 1, none⟩ = some u) ∧
      ((w__1.alloc (.cells ⟨[(.int .u8 0), (.int .i64 0), (.int .i64 0), (.int .i64 0), (.int .i64 0), (.int .i64 0)]⟩ 23)).setCell ⟨w__1.heap.size, 0, none⟩ (.int .u8 t26_0_0)).frozen? ⟨w__1.heap.size, 1, none⟩ = false ∧
      (∃ u, (((w__1.alloc (.cells ⟨[(.int .u8 0), (.int .i64 0), (.int .i64 0), (.int .i64 0), (.int .i64 0), (.int .i64 0)]⟩ 23)).setCell ⟨w__1.heap.size, 0, none⟩ (.int .u8 t26_0_0)).setCell ⟨w__1.heap.size, 1, none⟩ (.int .i64 t26_0_1)).cell? ⟨w__1.heap.size, 2, none⟩ = some u) ∧
      (((w__1.alloc (.cells ⟨[(.int .u8 0), (.int .i64 0), (.int .i64 0), (.int .i64 0), (.int .i64 0), (.int .i64 0)]⟩ 23)).setCell ⟨w__1.heap.size, 0, none⟩ (.int .u8 t26_0_0)).setCell ⟨w__1.heap.size, 1, none⟩ (.int .i64 t26_0_1)).frozen? ⟨w__1.heap.size, 2, none⟩ = false ∧
      (∃ u, ((((w__1.alloc (.cells ⟨[(.int .u8 0), (.int .i64 0), (.int .i64 0), (.int .i64 0), (.int .i64 0), (.int .i64 0)]⟩ 23)).setCell ⟨w__1.heap.size, 0, none⟩ (.int .u8 t26_0_0)).setCell ⟨w__1.heap.size, 1, none⟩ (.int .i64 t26_0_1)).setCell ⟨w__1.heap.size, 2, none⟩ (.int .i64 t26_0_2)).cell? ⟨w__1.heap.size, 3, none⟩ = some u) ∧
      ((((w__1.alloc (.cells ⟨[(.int .u8 0), (.int .i64 0), (.int .i64 0), (.int .i64 0), (.int .i64 0), (.int .i64 0)]⟩ 23)).setCell ⟨w__1.heap.size, 0, none⟩ (.int .u8 t26_0_0)).setCell ⟨w__1.heap.size, 1, none⟩ (.int .i64 t26_0_1)).setCell ⟨w__1.heap.size, 2, none⟩ (.int .i64 t26_0_2)).frozen? ⟨w__1.heap.size, 3, none⟩ = false ∧
      (∃ u, (((((w__1.alloc (.cells ⟨[(.int .u8 0), (.int .i64 0), (.int .i64 0), (.int .i64 0), (.int .i64 0), (.int .i64 0)]⟩ 23)).setCell ⟨w__1.heap.size, 0, none⟩ (.int .u8 t26_0_0)).setCell ⟨w__1.heap.size, 1, none⟩ (.int .i64 t26_0_1)).setCell ⟨w__1.heap.size, 2, none⟩ (.int .i64 t26_0_2)).setCell ⟨w__1.heap.size, 3, none⟩ (.int .i64 t26_0_3)).cell? ⟨w__1.heap.size, 4, none⟩ = some u) ∧
      (((((w__1.alloc (.cells ⟨[(.int .u8 0), (.int .i64 0), (.int .i64 0), (.int .i64 0), (.int .i64 0), (.int .i64 0)]⟩ 23)).setCell ⟨w__1.heap.size, 0, none⟩ (.int .u8 t26_0_0)).setCell ⟨w__1.heap.size, 1, none⟩ (.int .i64 t26_0_1)).setCell ⟨w__1.heap.size, 2, none⟩ (.int .i64 t26_0_2)).setCell ⟨w__1.heap.size, 3, none⟩ (.int .i64 t26_0_3)).frozen? ⟨w__1.heap.size, 4, none⟩ = false ∧
      (∃ u, ((((((w__1.alloc (.cells ⟨[(.int .u8 0), (.int .i64 0), (.int .i64 0), (.int .i64 0), (.int .i64 0), (.int .i64 0)]⟩ 23)).setCell ⟨w__1.heap.size, 0, none⟩ (.int .u8 t26_0_0)).setCell ⟨w__1.heap.size, 1, none⟩ (.int .i64 t26_0_1)).setCell ⟨w__1.heap.size, 2, none⟩ (.int .i64 t26_0_2)).setCell ⟨w__1.heap.size, 3, none⟩ (.int .i64 t26_0_3)).setCell ⟨w__1.heap.size, 4, none⟩ (.int .i64 t26_0_4)).cell? ⟨w__1.heap.size, 5, none⟩ = some u) ∧
      ((((((w__1.alloc (.cells ⟨[(.int .u8 0), (.int .i64 0), (.int .i64 0), (.int .i64 0), (.int .i64 0), (.int .i64 0)]⟩ 23)).setCell ⟨w__1.heap.size, 0, none⟩ (.int .u8 t26_0_0)).setCell ⟨w__1.heap.size, 1, none⟩ (.int .i64 t26_0_1)).setCell ⟨w__1.heap.size, 2, none⟩ (.int .i64 t26_0_2)).setCell ⟨w__1.heap.size, 3, none⟩ (.int .i64 t26_0_3)).setCell ⟨w__1.heap.size, 4, none⟩ (.int .i64 t26_0_4)).frozen? ⟨w__1.heap.size, 5, none⟩ = false ∧
      ∃ (t29_0 : Int),
      (((((((w__1.alloc (.cells ⟨[(.int .u8 0), (.int .i64 0), (.int .i64 0), (.int .i64 0), (.int .i64 0), (.int .i64 0)]⟩ 23)).setCell ⟨w__1.heap.size, 0, none⟩ (.int .u8 t26_0_0)).setCell ⟨w__1.heap.size, 1, none⟩ (.int .i64 t26_0_1)).setCell ⟨w__1.heap.size, 2, none⟩ (.int .i64 t26_0_2)).setCell ⟨w__1.heap.size, 3, none⟩ (.int .i64 t26_0_3)).setCell ⟨w__1.heap.size, 4, none⟩ (.int .i64 t26_0_4)).setCell ⟨w__1.heap.size, 5, none⟩ (.int .i64 t26_0_5)).cell? r = some (.int .u8 t29_0) ∧
      ∃ (t29_1 : Int),
      (((((((w__1.alloc (.cells ⟨[(.int .u8 0), (.int .i64 0), (.int .i64 0), (.int .i64 0), (.int .i64 0), (.int .i64 0)]⟩ 23)).setCell ⟨w__1.heap.size, 0, none⟩ (.int .u8 t26_0_0)).setCell ⟨w__1.heap.size, 1, none⟩ (.int .i64 t26_0_1)).setCell ⟨w__1.heap.size, 2, none⟩ (.int .i64 t26_0_2)).setCell ⟨w__1.heap.size, 3, none⟩ (.int .i64 t26_0_3)).setCell ⟨w__1.heap.size, 4, none⟩ (.int .i64 t26_0_4)).setCell ⟨w__1.heap.size, 5, none⟩ (.int .i64 t26_0_5)).cell? (r.add 1) = some (.int .i64 t29_1) ∧
      ∃ (t29_2 : Int),
      (((((((w__1.alloc (.cells ⟨[(.int .u8 0), (.int .i64 0), (.int .i64 0), (.int .i64 0), (.int .i64 0), (.int .i64 0)]⟩ 23)).setCell ⟨w__1.heap.size, 0, none⟩ (.int .u8 t26_0_0)).setCell ⟨w__1.heap.size, 1, none⟩ (.int .i64 t26_0_1)).setCell ⟨w__1.heap.size, 2, none⟩ (.int .i64 t26_0_2)).setCell ⟨w__1.heap.size, 3, none⟩ (.int .i64 t26_0_3)).setCell ⟨w__1.heap.size, 4, none⟩ (.int .i64 t26_0_4)).setCell ⟨w__1.heap.size, 5, none⟩ (.int .i64 t26_0_5)).cell? (r.add 2) = some (.int .i64 t29_2) ∧
      ∃ (t29_3 : Int),
      (((((((w__1.alloc (.cells ⟨[(.int .u8 0), (.int .i64 0), (.int .i64 0), (.int .i64 0), (.int .i64 0), (.int .i64 0)]⟩ 23)).setCell ⟨w__1.heap.size, 0, none⟩ (.int .u8 t26_0_0)).setCell ⟨w__1.heap.size, 1, none⟩ (.int .i64 t26_0_1)).setCell ⟨w__1.heap.size, 2, none⟩ (.int .i64 t26_0_2)).setCell ⟨w__1.heap.size, 3, none⟩ (.int .i64 t26_0_3)).setCell ⟨w__1.heap.size, 4, none⟩ (.int .i64 t26_0_4)).setCell ⟨w__1.heap.size, 5, none⟩ (.int .i64 t26_0_5)).cell? (r.add 3) = some (.int .i64 t29_3) ∧
      ∃ (t29_4 : Int),
      (((((((w__1.alloc (.cells ⟨[(.int .u8 0), (.int .i64 0), (.int .i64 0), (.int .i64 0), (.int .i64 0), (.int .i64 0)]⟩ 23)).setCell ⟨w__1.heap.size, 0, none⟩ (.int .u8 t26_0_0)).setCell ⟨w__1.heap.size, 1, none⟩ (.int .i64 t26_0_1)).setCell ⟨w__1.heap.size, 2, none⟩ (.int .i64 t26_0_2)).setCell ⟨w__1.heap.size, 3, none⟩ (.int .i64 t26_0_3)).setCell ⟨w__1.heap.size, 4, none⟩ (.int .i64 t26_0_4)).setCell ⟨w__1.heap.size, 5, none⟩ (.int .i64 t26_0_5)).cell? (r.add 4) = some (.int .i64 t29_4) ∧
      ∃ (t29_5 : Int),
      (((((((w__1.alloc (.cells ⟨[(.int .u8 0), (.int .i64 0), (.int .i64 0), (.int .i64 0), (.int .i64 0), (.int .i64 0)]⟩ 23)).setCell ⟨w__1.heap.size, 0, none⟩ (.int .u8 t26_0_0)).setCell ⟨w__1.heap.size, 1, none⟩ (.int .i64 t26_0_1)).setCell ⟨w__1.heap.size, 2, none⟩ (.int .i64 t26_0_2)).setCell ⟨w__1.heap.size, 3, none⟩ (.int .i64 t26_0_3)).setCell ⟨w__1.heap.size, 4, none⟩ (.int .i64 t26_0_4)).setCell ⟨w__1.heap.size, 5, none⟩ (.int .i64 t26_0_5)).cell? (r.add 5) = some (.int .i64 t29_5) ∧
      Calls Try.prog 12 ⟨[(.agg ⟨[(.int .u8 t29_0), (.int .i64 t29_1), (.int .i64 t29_2), (.int .i64 t29_3), (.int .i64 t29_4), (.int .i64 t29_5)]⟩)]⟩ (((((((w__1.alloc (.cells ⟨[(.int .u8 0), (.int .i64 0), (.int .i64 0), (.int .i64 0), (.int .i64 0), (.int .i64 0)]⟩ 23)).setCell ⟨w__1.heap.size, 0, none⟩ (.int .u8 t26_0_0)).setCell ⟨w__1.heap.size, 1, none⟩ (.int .i64 t26_0_1)).setCell ⟨w__1.heap.size, 2, none⟩ (.int .i64 t26_0_2)).setCell ⟨w__1.heap.size, 3, none⟩ (.int .i64 t26_0_3)).setCell ⟨w__1.heap.size, 4, none⟩ (.int .i64 t26_0_4)).setCell ⟨w__1.heap.size, 5, none⟩ (.int .i64 t26_0_5)) fun e w__2 =>
        ∃ (t30 : Bool),
        e = .returned (.bool t30) ∧
        cond (!(t30 == (decide ((t21_1 : Int) = 0)))) (
          S6_k1 b_a b_l b_c head true w__2 R
        ) (
          cond (decide ((t21_1 : Int) = 0)) (
            cond (!decide ((t26_1 : Int) = 0)) (
              S6_k1 b_a b_l b_c head true w__2 R
            ) (
              ∃ (t41_0 : Int),
              w__2.cell? ⟨w__1.heap.size, 0, none⟩ = some (.int .u8 t41_0) ∧
              ∃ (t41_1 : Int),
              w__2.cell? ⟨w__1.heap.size, 1, none⟩ = some (.int .i64 t41_1) ∧
              ∃ (t41_2 : Int),
              w__2.cell? ⟨w__1.heap.size, 2, none⟩ = some (.int .i64 t41_2) ∧
              ∃ (t41_3 : Int),
              w__2.cell? ⟨w__1.heap.size, 3, none⟩ = some (.int .i64 t41_3) ∧
              ∃ (t41_4 : Int),
              w__2.cell? ⟨w__1.heap.size, 4, none⟩ = some (.int .i64 t41_4) ∧
              ∃ (t41_5 : Int),
              w__2.cell? ⟨w__1.heap.size, 5, none⟩ = some (.int .i64 t41_5) ∧
              ∃ (t42_0 : Int),
              w__2.cell? r = some (.int .u8 t42_0) ∧
              ∃ (t42_1 : Int),
              w__2.cell? (r.add 1) = some (.int .i64 t42_1) ∧
              ∃ (t42_2 : Int),
              w__2.cell? (r.add 2) = some (.int .i64 t42_2) ∧
              ∃ (t42_3 : Int),
              w__2.cell? (r.add 3) = some (.int .i64 t42_3) ∧
              ∃ (t42_4 : Int),
              w__2.cell? (r.add 4) = some (.int .i64 t42_4) ∧
              ∃ (t42_5 : Int),
              w__2.cell? (r.add 5) = some (.int .i64 t42_5) ∧
              ∃ (t43 : Bool) (w__3 : World),
              (do eqGuard .neq 23 (.tmp 41) (.tmp 42) (.agg ⟨[(.int .u8 t41_0), (.int .i64 t41_1), (.int .i64 t41_2), (.int .i64 t41_3), (.int .i64 t41_4), (.int .i64 t41_5)]⟩) (.agg ⟨[(.int .u8 t42_0), (.int .i64 t42_1), (.int .i64 t42_2), (.int .i64 t42_3), (.int .i64 t42_4), (.int .i64 t42_5)]⟩); binOp .neq 23 (.agg ⟨[(.int .u8 t41_0), (.int .i64 t41_1), (.int .i64 t41_2), (.int .i64 t41_3), (.int .i64 t41_4), (.int .i64 t41_5)]⟩) (.agg ⟨[(.int .u8 t42_0), (.int .i64 t42_1), (.int .i64 t42_2), (.int .i64 t42_3), (.int .i64 t42_4), (.int .i64 t42_5)]⟩)).run Try.prog w__2 = .ok (.bool t43) w__3 ∧
              cond t43 (
                S6_k1 b_a b_l b_c head true w__3 R
              ) (
                cond (!decide ((t21_1 : Int) = 0)) (
                  S6_k1 b_a b_l b_c head (decide ((0 : Int) < ((t21_0_l : Nat) : Int))) w__3 R
                ) (
                  S6_k1 b_a b_l b_c head false w__3 R
                )
              )
            )
          ) (
            cond (!decide ((t21_1 : Int) = 0)) (
              S6_k1 b_a b_l b_c head (decide ((0 : Int) < ((t21_0_l : Nat) : Int))) w__2 R
            ) (
              S6_k1 b_a b_l b_c head false w__2 R
            )
          )
        )

def S6 (r_0 : Int) (r_1 : Int) (r_2 : Int) (r_3 : Int) (r_4 : Int) (r_5 : Int) (b_a : Option Addr) (b_l : Nat) (b_c : Nat) (w : World) (R : Value → World → Prop) : Prop :=
  Calls Try.prog 11 ⟨[]⟩ (w.alloc (.cells ⟨[(.int .u8 r_0), (.int .i64 r_1), (.int .i64 r_2), (.int .i64 r_3), (.int .i64 r_4), (.int .i64 r_5)]⟩ 23)) fun e w_ =>
    ∃ (t14 : Bool),
    e = .returned (.bool t14) ∧
    cond (decide ((1000 : Int) < ((b_l : Nat) : Int))) (
      R (.bool t14) w_
    ) (
      S6_k0 b_a b_l b_c ⟨w.heap.size, 0, none⟩ t14 w_ R
    )

theorem S6_eq (r_0 : Int) (r_1 : Int) (r_2 : Int) (r_3 : Int) (r_4 : Int) (r_5 : Int) (b_a : Option Addr) (b_l : Nat) (b_c : Nat) (w : World) (R : Value → World → Prop) : Eng.R Try.prog ⟨cal, S6_nx⟩ 91 S6_ann [] (Try.f6.body.getD .skip) (bodyQ Try.prog #[.tmp 4] R) (argE [(.agg ⟨[(.int .u8 r_0), (.int .i64 r_1), (.int .i64 r_2), (.int .i64 r_3), (.int .i64 r_4), (.int .i64 r_5)]⟩), (.slice b_a b_l b_c)]) w = S6 r_0 r_1 r_2 r_3 r_4 r_5 b_a b_l b_c w R := by kernel_rfl
/-- A call of 'carfax/carfaxlaw17.RecordBack', by its condition. -/
theorem S6_calls {r_0 : Int} {r_1 : Int} {r_2 : Int} {r_3 : Int} {r_4 : Int} {r_5 : Int} {b_a : Option Addr} {b_l : Nat} {b_c : Nat} {w : World} {R : Value → World → Prop} (hS : S6 r_0 r_1 r_2 r_3 r_4 r_5 b_a b_l b_c w R) : Ret Try.prog 6 [(.agg ⟨[(.int .u8 r_0), (.int .i64 r_1), (.int .i64 r_2), (.int .i64 r_3), (.int .i64 r_4), (.int .i64 r_5)]⟩), (.slice b_a b_l b_c)] w R :=
  R_calls (C := ⟨cal, S6_nx⟩) cal_ok follows Try.func6 (c := Try.f6.body.getD .skip) (res := #[.tmp 4]) (n := 91) (by kernel_rfl) (by kernel_rfl) (by kernel_rfl) (by kernel_rfl) ((S6_eq r_0 r_1 r_2 r_3 r_4 r_5 b_a b_l b_c w R).mpr hS)

def S7_ann (p : List Nat) : Option LA :=
  none

def S7_nx (t : Nat) : Option (TypeId × TypeId) := none

def S7_k2 (cut : Int) (behind : Int) (head : Bool) (a_a : Option Addr) (a_l : Nat) (a_c : Nat) (w : World) (R : Value → World → Prop) : Prop :=
  (((a_l : Nat) : Int) : Int) ≠ 0 ∧
  0 ≤ ((Int.tmod (IntKind.i64.wrap cut) ((a_l : Nat) : Int)) : Int) ∧
  ((Int.tmod (IntKind.i64.wrap cut) ((a_l : Nat) : Int)) : Int) ≤ ((a_c : Nat) : Int) ∧
  Calls Try.prog 17 ⟨[(.slice (slAddr a_a a_c 0 1) ((Int.toNat (Int.tmod (IntKind.i64.wrap cut) ((a_l : Nat) : Int))) - 0) (a_c - 0))]⟩ w fun e w_ =>
    ∃ (t39_0_0 : Int) (t39_0_1 : Int) (t39_0_2 : Int) (t39_0_3 : Int) (t39_0_4 : Int) (t39_0_5 : Int) (t39_1 : Int),
    e = .returned (.tuple ⟨[(.agg ⟨[(.int .u8 t39_0_0), (.int .i64 t39_0_1), (.int .i64 t39_0_2), (.int .i64 t39_0_3), (.int .i64 t39_0_4), (.int .i64 t39_0_5)]⟩), (.int .i64 t39_1)]⟩) ∧
    (∃ u, (w_.alloc (.cells ⟨[(.int .u8 0), (.int .i64 0), (.int .i64 0), (.int .i64 0), (.int .i64 0), (.int .i64 0)]⟩ 23)).cell? ⟨w_.heap.size, 0, none⟩ = some u) ∧
    (w_.alloc (.cells ⟨[(.int .u8 0), (.int .i64 0), (.int .i64 0), (.int .i64 0), (.int .i64 0), (.int .i64 0)]⟩ 23)).frozen? ⟨w_.heap.size, 0, none⟩ = false ∧
    (∃ u, ((w_.alloc (.cells ⟨[(.int .u8 0), (.int .i64 0), (.int .i64 0), (.int .i64 0), (.int .i64 0), (.int .i64 0)]⟩ 23)).setCell ⟨w_.heap.size, 0, none⟩ (.int .u8 t39_0_0)).cell? ⟨w_.heap.size, 1, none⟩ = some u) ∧
    ((w_.alloc (.cells ⟨[(.int .u8 0), (.int .i64 0), (.int .i64 0), (.int .i64 0), (.int .i64 0), (.int .i64 0)]⟩ 23)).setCell ⟨w_.heap.size, 0, none⟩ (.int .u8 t39_0_0)).frozen? ⟨w_.heap.size, 1, none⟩ = false ∧
    (∃ u, (((w_.alloc (.cells ⟨[(.int .u8 0), (.int .i64 0), (.int .i64 0), (.int .i64 0), (.int .i64 0), (.int .i64 0)]⟩ 23)).setCell ⟨w_.heap.size, 0, none⟩ (.int .u8 t39_0_0)).setCell ⟨w_.heap.size, 1, none⟩ (.int .i64 t39_0_1)).cell? ⟨w_.heap.size, 2, none⟩ = some u) ∧
    (((w_.alloc (.cells ⟨[(.int .u8 0), (.int .i64 0), (.int .i64 0), (.int .i64 0), (.int .i64 0), (.int .i64 0)]⟩ 23)).setCell ⟨w_.heap.size, 0, none⟩ (.int .u8 t39_0_0)).setCell ⟨w_.heap.size, 1, none⟩ (.int .i64 t39_0_1)).frozen? ⟨w_.heap.size, 2, none⟩ = false ∧
    (∃ u, ((((w_.alloc (.cells ⟨[(.int .u8 0), (.int .i64 0), (.int .i64 0), (.int .i64 0), (.int .i64 0), (.int .i64 0)]⟩ 23)).setCell ⟨w_.heap.size, 0, none⟩ (.int .u8 t39_0_0)).setCell ⟨w_.heap.size, 1, none⟩ (.int .i64 t39_0_1)).setCell ⟨w_.heap.size, 2, none⟩ (.int .i64 t39_0_2)).cell? ⟨w_.heap.size, 3, none⟩ = some u) ∧
    ((((w_.alloc (.cells ⟨[(.int .u8 0), (.int .i64 0), (.int .i64 0), (.int .i64 0), (.int .i64 0), (.int .i64 0)]⟩ 23)).setCell ⟨w_.heap.size, 0, none⟩ (.int .u8 t39_0_0)).setCell ⟨w_.heap.size, 1, none⟩ (.int .i64 t39_0_1)).setCell ⟨w_.heap.size, 2, none⟩ (.int .i64 t39_0_2)).frozen? ⟨w_.heap.size, 3, none⟩ = false ∧
    (∃ u, (((((w_.alloc (.cells ⟨[(.int .u8 0), (.int .i64 0), (.int .i64 0), (.int .i64 0), (.int .i64 0), (.int .i64 0)]⟩ 23)).setCell ⟨w_.heap.size, 0, none⟩ (.int .u8 t39_0_0)).setCell ⟨w_.heap.size, 1, none⟩ (.int .i64 t39_0_1)).setCell ⟨w_.heap.size, 2, none⟩ (.int .i64 t39_0_2)).setCell ⟨w_.heap.size, 3, none⟩ (.int .i64 t39_0_3)).cell? ⟨w_.heap.size, 4, none⟩ = some u) ∧
    (((((w_.alloc (.cells ⟨[(.int .u8 0), (.int .i64 0), (.int .i64 0), (.int .i64 0), (.int .i64 0), (.int .i64 0)]⟩ 23)).setCell ⟨w_.heap.size, 0, none⟩ (.int .u8 t39_0_0)).setCell ⟨w_.heap.size, 1, none⟩ (.int .i64 t39_0_1)).setCell ⟨w_.heap.size, 2, none⟩ (.int .i64 t39_0_2)).setCell ⟨w_.heap.size, 3, none⟩ (.int .i64 t39_0_3)).frozen? ⟨w_.heap.size, 4, none⟩ = false ∧
    (∃ u, ((((((w_.alloc (.cells ⟨[(.int .u8 0), (.int .i64 0), (.int .i64 0), (.int .i64 0), (.int .i64 0), (.int .i64 0)]⟩ 23)).setCell ⟨w_.heap.size, 0, none⟩ (.int .u8 t39_0_0)).setCell ⟨w_.heap.size, 1, none⟩ (.int .i64 t39_0_1)).setCell ⟨w_.heap.size, 2, none⟩ (.int .i64 t39_0_2)).setCell ⟨w_.heap.size, 3, none⟩ (.int .i64 t39_0_3)).setCell ⟨w_.heap.size, 4, none⟩ (.int .i64 t39_0_4)).cell? ⟨w_.heap.size, 5, none⟩ = some u) ∧
    ((((((w_.alloc (.cells ⟨[(.int .u8 0), (.int .i64 0), (.int .i64 0), (.int .i64 0), (.int .i64 0), (.int .i64 0)]⟩ 23)).setCell ⟨w_.heap.size, 0, none⟩ (.int .u8 t39_0_0)).setCell ⟨w_.heap.size, 1, none⟩ (.int .i64 t39_0_1)).setCell ⟨w_.heap.size, 2, none⟩ (.int .i64 t39_0_2)).setCell ⟨w_.heap.size, 3, none⟩ (.int .i64 t39_0_3)).setCell ⟨w_.heap.size, 4, none⟩ (.int .i64 t39_0_4)).frozen? ⟨w_.heap.size, 5, none⟩ = false ∧
    ∃ (t45_a : Option Addr) (t45_l : Nat) (t45_c : Nat) (w__1 : World),
    (Builtin.append_ #[24, 24] 24 ⟨[(.slice (some ⟨(((((((w_.alloc (.cells ⟨[(.int .u8 0), (.int .i64 0), (.int .i64 0), (.int .i64 0), (.int .i64 0), (.int .i64 0)]⟩ 23)).setCell ⟨w_.heap.size, 0, none⟩ (.int .u8 t39_0_0)).setCell ⟨w_.heap.size, 1, none⟩ (.int .i64 t39_0_1)).setCell ⟨w_.heap.size, 2, none⟩ (.int .i64 t39_0_2)).setCell ⟨w_.heap.size, 3, none⟩ (.int .i64 t39_0_3)).setCell ⟨w_.heap.size, 4, none⟩ (.int .i64 t39_0_4)).setCell ⟨w_.heap.size, 5, none⟩ (.int .i64 t39_0_5)).heap.size, 0, none⟩) 0 0), (.slice a_a a_l a_c)]⟩).run Try.prog ((((((((w_.alloc (.cells ⟨[(.int .u8 0), (.int .i64 0), (.int .i64 0), (.int .i64 0), (.int .i64 0), (.int .i64 0)]⟩ 23)).setCell ⟨w_.heap.size, 0, none⟩ (.int .u8 t39_0_0)).setCell ⟨w_.heap.size, 1, none⟩ (.int .i64 t39_0_1)).setCell ⟨w_.heap.size, 2, none⟩ (.int .i64 t39_0_2)).setCell ⟨w_.heap.size, 3, none⟩ (.int .i64 t39_0_3)).setCell ⟨w_.heap.size, 4, none⟩ (.int .i64 t39_0_4)).setCell ⟨w_.heap.size, 5, none⟩ (.int .i64 t39_0_5)).alloc (.cells ⟨[]⟩ 5)) = .ok (.slice t45_a t45_l t45_c) w__1 ∧
    ∃ (t48_a : Option Addr) (t48_l : Nat) (t48_c : Nat) (w__2 : World),
    (Builtin.append_ #[24, 24] 24 ⟨[(.slice t45_a t45_l t45_c), (.slice (some ⟨w__1.heap.size, 0, none⟩) 1 1)]⟩).run Try.prog (w__1.alloc (.cells ⟨[(.int .u8 behind)]⟩ 5)) = .ok (.slice t48_a t48_l t48_c) w__2 ∧
    Calls Try.prog 17 ⟨[(.slice t48_a t48_l t48_c)]⟩ w__2 fun e w__3 =>
      ∃ (t49_0_0 : Int) (t49_0_1 : Int) (t49_0_2 : Int) (t49_0_3 : Int) (t49_0_4 : Int) (t49_0_5 : Int) (t49_1 : Int),
      e = .returned (.tuple ⟨[(.agg ⟨[(.int .u8 t49_0_0), (.int .i64 t49_0_1), (.int .i64 t49_0_2), (.int .i64 t49_0_3), (.int .i64 t49_0_4), (.int .i64 t49_0_5)]⟩), (.int .i64 t49_1)]⟩) ∧
      (∃ u, (w__3.alloc (.cells ⟨[(.int .u8 0), (.int .i64 0), (.int .i64 0), (.int .i64 0), (.int .i64 0), (.int .i64 0)]⟩ 23)).cell? ⟨w__3.heap.size, 0, none⟩ = some u) ∧
      (w__3.alloc (.cells ⟨[(.int .u8 0), (.int .i64 0), (.int .i64 0), (.int .i64 0), (.int .i64 0), (.int .i64 0)]⟩ 23)).frozen? ⟨w__3.heap.size, 0, none⟩ = false ∧
      (∃ u, ((w__3.alloc (.cells ⟨[(.int .u8 0), (.int .i64 0), (.int .i64 0), (.int .i64 0), (.int .i64 0), (.int .i64 0)]⟩ 23)).setCell ⟨w__3.heap.size, 0, none⟩ (.int .u8 t49_0_0)).cell? ⟨w__3.heap.size, 1, none⟩ = some u) ∧
      ((w__3.alloc (.cells ⟨[(.int .u8 0), (.int .i64 0), (.int .i64 0), (.int .i64 0), (.int .i64 0), (.int .i64 0)]⟩ 23)).setCell ⟨w__3.heap.size, 0, none⟩ (.int .u8 t49_0_0)).frozen? ⟨w__3.heap.size, 1, none⟩ = false ∧
      (∃ u, (((w__3.alloc (.cells ⟨[(.int .u8 0), (.int .i64 0), (.int .i64 0), (.int .i64 0), (.int .i64 0), (.int .i64 0)]⟩ 23)).setCell ⟨w__3.heap.size, 0, none⟩ (.int .u8 t49_0_0)).setCell ⟨w__3.heap.size, 1, none⟩ (.int .i64 t49_0_1)).cell? ⟨w__3.heap.size, 2, none⟩ = some u) ∧
      (((w__3.alloc (.cells ⟨[(.int .u8 0), (.int .i64 0), (.int .i64 0), (.int .i64 0), (.int .i64 0), (.int .i64 0)]⟩ 23)).setCell ⟨w__3.heap.size, 0, none⟩ (.int .u8 t49_0_0)).setCell ⟨w__3.heap.size, 1, none⟩ (.int .i64 t49_0_1)).frozen? ⟨w__3.heap.size, 2, none⟩ = false ∧
      (∃ u, ((((w__3.alloc (.cells ⟨[(.int .u8 0), (.int .i64 0), (.int .i64 0), (.int .i64 0), (.int .i64 0), (.int .i64 0)]⟩ 23)).setCell ⟨w__3.heap.size, 0, none⟩ (.int .u8 t49_0_0)).setCell ⟨w__3.heap.size, 1, none⟩ (.int .i64 t49_0_1)).setCell ⟨w__3.heap.size, 2, none⟩ (.int .i64 t49_0_2)).cell? ⟨w__3.heap.size, 3, none⟩ = some u) ∧
      ((((w__3.alloc (.cells ⟨[(.int .u8 0), (.int .i64 0), (.int .i64 0), (.int .i64 0), (.int .i64 0), (.int .i64 0)]⟩ 23)).setCell ⟨w__3.heap.size, 0, none⟩ (.int .u8 t49_0_0)).setCell ⟨w__3.heap.size, 1, none⟩ (.int .i64 t49_0_1)).setCell ⟨w__3.heap.size, 2, none⟩ (.int .i64 t49_0_2)).frozen? ⟨w__3.heap.size, 3, none⟩ = false ∧
      (∃ u, (((((w__3.alloc (.cells ⟨[(.int .u8 0), (.int .i64 0), (.int .i64 0), (.int .i64 0), (.int .i64 0), (.int .i64 0)]⟩ 23)).setCell ⟨w__3.heap.size, 0, none⟩ (.int .u8 t49_0_0)).setCell ⟨w__3.heap.size, 1, none⟩ (.int .i64 t49_0_1)).setCell ⟨w__3.heap.size, 2, none⟩ (.int .i64 t49_0_2)).setCell ⟨w__3.heap.size, 3, none⟩ (.int .i64 t49_0_3)).cell? ⟨w__3.heap.size, 4, none⟩ = some u) ∧
      (((((w__3.alloc (.cells ⟨[(.int .u8 0), (.int .i64 0), (.int .i64 0), (.int .i64 0), (.int .i64 0), (.int .i64 0)]⟩ 23)).setCell ⟨w__3.heap.size, 0, none⟩ (.int .u8 t49_0_0)).setCell ⟨w__3.heap.size, 1, none⟩ (.int .i64 t49_0_1)).setCell ⟨w__3.heap.size, 2, none⟩ (.int .i64 t49_0_2)).setCell ⟨w__3.heap.size, 3, none⟩ (.int .i64 t49_0_3)).frozen? ⟨w__3.heap.size, 4, none⟩ = false ∧
      (∃ u, ((((((w__3.alloc (.cells ⟨[(.int .u8 0), (.int .i64 0), (.int .i64 0), (.int .i64 0), (.int .i64 0), (.int .i64 0)]⟩ 23)).setCell ⟨w__3.heap.size, 0, none⟩ (.int .u8 t49_0_0)).setCell ⟨w__3.heap.size, 1, none⟩ (.int .i64 t49_0_1)).setCell ⟨w__3.heap.size, 2, none⟩ (.int .i64 t49_0_2)).setCell ⟨w__3.heap.size, 3, none⟩ (.int .i64 t49_0_3)).setCell ⟨w__3.heap.size, 4, none⟩ (.int .i64 t49_0_4)).cell? ⟨w__3.heap.size, 5, none⟩ = some u) ∧
      ((((((w__3.alloc (.cells ⟨[(.int .u8 0), (.int .i64 0), (.int .i64 0), (.int .i64 0), (.int .i64 0), (.int .i64 0)]⟩ 23)).setCell ⟨w__3.heap.size, 0, none⟩ (.int .u8 t49_0_0)).setCell ⟨w__3.heap.size, 1, none⟩ (.int .i64 t49_0_1)).setCell ⟨w__3.heap.size, 2, none⟩ (.int .i64 t49_0_2)).setCell ⟨w__3.heap.size, 3, none⟩ (.int .i64 t49_0_3)).setCell ⟨w__3.heap.size, 4, none⟩ (.int .i64 t49_0_4)).frozen? ⟨w__3.heap.size, 5, none⟩ = false ∧
      cond head (
        cond (decide ((t39_1 : Int) = 170)) (
          R (.bool (decide ((t49_1 : Int) = 170))) (((((((w__3.alloc (.cells ⟨[(.int .u8 0), (.int .i64 0), (.int .i64 0), (.int .i64 0), (.int .i64 0), (.int .i64 0)]⟩ 23)).setCell ⟨w__3.heap.size, 0, none⟩ (.int .u8 t49_0_0)).setCell ⟨w__3.heap.size, 1, none⟩ (.int .i64 t49_0_1)).setCell ⟨w__3.heap.size, 2, none⟩ (.int .i64 t49_0_2)).setCell ⟨w__3.heap.size, 3, none⟩ (.int .i64 t49_0_3)).setCell ⟨w__3.heap.size, 4, none⟩ (.int .i64 t49_0_4)).setCell ⟨w__3.heap.size, 5, none⟩ (.int .i64 t49_0_5))
        ) (
          R (.bool false) (((((((w__3.alloc (.cells ⟨[(.int .u8 0), (.int .i64 0), (.int .i64 0), (.int .i64 0), (.int .i64 0), (.int .i64 0)]⟩ 23)).setCell ⟨w__3.heap.size, 0, none⟩ (.int .u8 t49_0_0)).setCell ⟨w__3.heap.size, 1, none⟩ (.int .i64 t49_0_1)).setCell ⟨w__3.heap.size, 2, none⟩ (.int .i64 t49_0_2)).setCell ⟨w__3.heap.size, 3, none⟩ (.int .i64 t49_0_3)).setCell ⟨w__3.heap.size, 4, none⟩ (.int .i64 t49_0_4)).setCell ⟨w__3.heap.size, 5, none⟩ (.int .i64 t49_0_5))
        )
      ) (
        R (.bool false) (((((((w__3.alloc (.cells ⟨[(.int .u8 0), (.int .i64 0), (.int .i64 0), (.int .i64 0), (.int .i64 0), (.int .i64 0)]⟩ 23)).setCell ⟨w__3.heap.size, 0, none⟩ (.int .u8 t49_0_0)).setCell ⟨w__3.heap.size, 1, none⟩ (.int .i64 t49_0_1)).setCell ⟨w__3.heap.size, 2, none⟩ (.int .i64 t49_0_2)).setCell ⟨w__3.heap.size, 3, none⟩ (.int .i64 t49_0_3)).setCell ⟨w__3.heap.size, 4, none⟩ (.int .i64 t49_0_4)).setCell ⟨w__3.heap.size, 5, none⟩ (.int .i64 t49_0_5))
      )

def S7_k1 (cut : Int) (behind : Int) (head : Bool) (a_a : Option Addr) (a_l : Nat) (a_c : Nat) (t30 : Bool) (w : World) (R : Value → World → Prop) : Prop :=
  cond t30 (
    R (.bool false) w
  ) (
    S7_k2 cut behind head a_a a_l a_c w R
  )

def S7_k0 (cut : Int) (behind : Int) (r : Addr) (head : Bool) (w : World) (R : Value → World → Prop) : Prop :=
  ∃ (t20_0 : Int),
  w.cell? r = some (.int .u8 t20_0) ∧
  ∃ (t20_1 : Int),
  w.cell? (r.add 1) = some (.int .i64 t20_1) ∧
  ∃ (t20_2 : Int),
  w.cell? (r.add 2) = some (.int .i64 t20_2) ∧
  ∃ (t20_3 : Int),
  w.cell? (r.add 3) = some (.int .i64 t20_3) ∧
  ∃ (t20_4 : Int),
  w.cell? (r.add 4) = some (.int .i64 t20_4) ∧
  ∃ (t20_5 : Int),
  w.cell? (r.add 5) = some (.int .i64 t20_5) ∧
  Calls Try.prog 9 ⟨[(.agg ⟨[(.int .u8 t20_0), (.int .i64 t20_1), (.int .i64 t20_2), (.int .i64 t20_3), (.int .i64 t20_4), (.int .i64 t20_5)]⟩)]⟩ w fun e w_ =>
    ∃ (t21_0_a : Option Addr) (t21_0_l : Nat) (t21_0_c : Nat) (t21_1 : Int),
    e = .returned (.tuple ⟨[(.slice t21_0_a t21_0_l t21_0_c), (.int .i64 t21_1)]⟩) ∧
    cond (!decide ((t21_1 : Int) = 0)) (
      S7_k1 cut behind head t21_0_a t21_0_l t21_0_c true w_ R
    ) (
      S7_k1 cut behind head t21_0_a t21_0_l t21_0_c (decide ((((t21_0_l : Nat) : Int) : Int) = 0)) w_ R
    )

def S7 (r_0 : Int) (r_1 : Int) (r_2 : Int) (r_3 : Int) (r_4 : Int) (r_5 : Int) (cut : Int) (behind : Int) (w : World) (R : Value → World → Prop) : Prop :=
  Calls Try.prog 11 ⟨[]⟩ (w.alloc (.cells ⟨[(.int .u8 r_0), (.int .i64 r_1), (.int .i64 r_2), (.int .i64 r_3), (.int .i64 r_4), (.int .i64 r_5)]⟩ 23)) fun e w_ =>
    ∃ (t14 : Bool),
    e = .returned (.bool t14) ∧
    ∃ (t15_0 : Int),
    w_.cell? ⟨w.heap.size, 0, none⟩ = some (.int .u8 t15_0) ∧
    ∃ (t15_1 : Int),
    w_.cell? ⟨w.heap.size, 1, none⟩ = some (.int .i64 t15_1) ∧
    ∃ (t15_2 : Int),
    w_.cell? ⟨w.heap.size, 2, none⟩ = some (.int .i64 t15_2) ∧
    ∃ (t15_3 : Int),
    w_.cell? ⟨w.heap.size, 3, none⟩ = some (.int .i64 t15_3) ∧
    ∃ (t15_4 : Int),
    w_.cell? ⟨w.heap.size, 4, none⟩ = some (.int .i64 t15_4) ∧
    ∃ (t15_5 : Int),
    w_.cell? ⟨w.heap.size, 5, none⟩ = some (.int .i64 t15_5) ∧
    Calls Try.prog 12 ⟨[(.agg ⟨[(.int .u8 t15_0), (.int .i64 t15_1), (.int .i64 t15_2), (.int .i64 t15_3), (.int .i64 t15_4), (.int .i64 t15_5)]⟩)]⟩ w_ fun e w__1 =>
      ∃ (t16 : Bool),
      e = .returned (.bool t16) ∧
      cond (!t16) (
        R (.bool t14) w__1
      ) (
        S7_k0 cut behind ⟨w.heap.size, 0, none⟩ t14 w__1 R
      )

theorem S7_eq (r_0 : Int) (r_1 : Int) (r_2 : Int) (r_3 : Int) (r_4 : Int) (r_5 : Int) (cut : Int) (behind : Int) (w : World) (R : Value → World → Prop) : Eng.R Try.prog ⟨cal, S7_nx⟩ 61 S7_ann [] (Try.f7.body.getD .skip) (bodyQ Try.prog #[.tmp 6] R) (argE [(.agg ⟨[(.int .u8 r_0), (.int .i64 r_1), (.int .i64 r_2), (.int .i64 r_3), (.int .i64 r_4), (.int .i64 r_5)]⟩), (.int .u8 cut), (.int .u8 behind)]) w = S7 r_0 r_1 r_2 r_3 r_4 r_5 cut behind w R := by kernel_rfl
/-- A call of 'carfax/carfaxlaw17.RecordCut', by its condition. -/
theorem S7_calls {r_0 : Int} {r_1 : Int} {r_2 : Int} {r_3 : Int} {r_4 : Int} {r_5 : Int} {cut : Int} {behind : Int} {w : World} {R : Value → World → Prop} (hS : S7 r_0 r_1 r_2 r_3 r_4 r_5 cut behind w R) : Ret Try.prog 7 [(.agg ⟨[(.int .u8 r_0), (.int .i64 r_1), (.int .i64 r_2), (.int .i64 r_3), (.int .i64 r_4), (.int .i64 r_5)]⟩), (.int .u8 cut), (.int .u8 behind)] w R :=
  R_calls (C := ⟨cal, S7_nx⟩) cal_ok follows Try.func7 (c := Try.f7.body.getD .skip) (res := #[.tmp 6]) (n := 61) (by kernel_rfl) (by kernel_rfl) (by kernel_rfl) (by kernel_rfl) ((S7_eq r_0 r_1 r_2 r_3 r_4 r_5 cut behind w R).mpr hS)

def S8_ann (p : List Nat) : Option LA :=
  none

def S8_nx (t : Nat) : Option (TypeId × TypeId) := none

def S8_k0 (b_a : Option Addr) (b_l : Nat) (b_c : Nat) (head : Bool) (w : World) (R : Value → World → Prop) : Prop :=
  Calls Try.prog 17 ⟨[(.slice b_a b_l b_c)]⟩ w fun e w_ =>
    ∃ (t19_0_0 : Int) (t19_0_1 : Int) (t19_0_2 : Int) (t19_0_3 : Int) (t19_0_4 : Int) (t19_0_5 : Int) (t19_1 : Int),
    e = .returned (.tuple ⟨[(.agg ⟨[(.int .u8 t19_0_0), (.int .i64 t19_0_1), (.int .i64 t19_0_2), (.int .i64 t19_0_3), (.int .i64 t19_0_4), (.int .i64 t19_0_5)]⟩), (.int .i64 t19_1)]⟩) ∧
    (∃ u, (w_.alloc (.cells ⟨[(.int .u8 0), (.int .i64 0), (.int .i64 0), (.int .i64 0), (.int .i64 0), (.int .i64 0)]⟩ 23)).cell? ⟨w_.heap.size, 0, none⟩ = some u) ∧
    (w_.alloc (.cells ⟨[(.int .u8 0), (.int .i64 0), (.int .i64 0), (.int .i64 0), (.int .i64 0), (.int .i64 0)]⟩ 23)).frozen? ⟨w_.heap.size, 0, none⟩ = false ∧
    (∃ u, ((w_.alloc (.cells ⟨[(.int .u8 0), (.int .i64 0), (.int .i64 0), (.int .i64 0), (.int .i64 0), (.int .i64 0)]⟩ 23)).setCell ⟨w_.heap.size, 0, none⟩ (.int .u8 t19_0_0)).cell? ⟨w_.heap.size, 1, none⟩ = some u) ∧
    ((w_.alloc (.cells ⟨[(.int .u8 0), (.int .i64 0), (.int .i64 0), (.int .i64 0), (.int .i64 0), (.int .i64 0)]⟩ 23)).setCell ⟨w_.heap.size, 0, none⟩ (.int .u8 t19_0_0)).frozen? ⟨w_.heap.size, 1, none⟩ = false ∧
    (∃ u, (((w_.alloc (.cells ⟨[(.int .u8 0), (.int .i64 0), (.int .i64 0), (.int .i64 0), (.int .i64 0), (.int .i64 0)]⟩ 23)).setCell ⟨w_.heap.size, 0, none⟩ (.int .u8 t19_0_0)).setCell ⟨w_.heap.size, 1, none⟩ (.int .i64 t19_0_1)).cell? ⟨w_.heap.size, 2, none⟩ = some u) ∧
    (((w_.alloc (.cells ⟨[(.int .u8 0), (.int .i64 0), (.int .i64 0), (.int .i64 0), (.int .i64 0), (.int .i64 0)]⟩ 23)).setCell ⟨w_.heap.size, 0, none⟩ (.int .u8 t19_0_0)).setCell ⟨w_.heap.size, 1, none⟩ (.int .i64 t19_0_1)).frozen? ⟨w_.heap.size, 2, none⟩ = false ∧
    (∃ u, ((((w_.alloc (.cells ⟨[(.int .u8 0), (.int .i64 0), (.int .i64 0), (.int .i64 0), (.int .i64 0), (.int .i64 0)]⟩ 23)).setCell ⟨w_.heap.size, 0, none⟩ (.int .u8 t19_0_0)).setCell ⟨w_.heap.size, 1, none⟩ (.int .i64 t19_0_1)).setCell ⟨w_.heap.size, 2, none⟩ (.int .i64 t19_0_2)).cell? ⟨w_.heap.size, 3, none⟩ = some u) ∧
    ((((w_.alloc (.cells ⟨[(.int .u8 0), (.int .i64 0), (.int .i64 0), (.int .i64 0), (.int .i64 0), (.int .i64 0)]⟩ 23)).setCell ⟨w_.heap.size, 0, none⟩ (.int .u8 t19_0_0)).setCell ⟨w_.heap.size, 1, none⟩ (.int .i64 t19_0_1)).setCell ⟨w_.heap.size, 2, none⟩ (.int .i64 t19_0_2)).frozen? ⟨w_.heap.size, 3, none⟩ = false ∧
    (∃ u, (((((w_.alloc (.cells ⟨[(.int .u8 0), (.int .i64 0), (.int .i64 0), (.int .i64 0), (.int .i64 0), (.int .i64 0)]⟩ 23)).setCell ⟨w_.heap.size, 0, none⟩ (.int .u8 t19_0_0)).setCell ⟨w_.heap.size, 1, none⟩ (.int .i64 t19_0_1)).setCell ⟨w_.heap.size, 2, none⟩ (.int .i64 t19_0_2)).setCell ⟨w_.heap.size, 3, none⟩ (.int .i64 t19_0_3)).cell? ⟨w_.heap.size, 4, none⟩ = some u) ∧
    (((((w_.alloc (.cells ⟨[(.int .u8 0), (.int .i64 0), (.int .i64 0), (.int .i64 0), (.int .i64 0), (.int .i64 0)]⟩ 23)).setCell ⟨w_.heap.size, 0, none⟩ (.int .u8 t19_0_0)).setCell ⟨w_.heap.size, 1, none⟩ (.int .i64 t19_0_1)).setCell ⟨w_.heap.size, 2, none⟩ (.int .i64 t19_0_2)).setCell ⟨w_.heap.size, 3, none⟩ (.int .i64 t19_0_3)).frozen? ⟨w_.heap.size, 4, none⟩ = false ∧
    (∃ u, ((((((w_.alloc (.cells ⟨[(.int .u8 0), (.int .i64 0), (.int .i64 0), (.int .i64 0), (.int .i64 0), (.int .i64 0)]⟩ 23)).setCell ⟨w_.heap.size, 0, none⟩ (.int .u8 t19_0_0)).setCell ⟨w_.heap.size, 1, none⟩ (.int .i64 t19_0_1)).setCell ⟨w_.heap.size, 2, none⟩ (.int .i64 t19_0_2)).setCell ⟨w_.heap.size, 3, none⟩ (.int .i64 t19_0_3)).setCell ⟨w_.heap.size, 4, none⟩ (.int .i64 t19_0_4)).cell? ⟨w_.heap.size, 5, none⟩ = some u) ∧
    ((((((w_.alloc (.cells ⟨[(.int .u8 0), (.int .i64 0), (.int .i64 0), (.int .i64 0), (.int .i64 0), (.int .i64 0)]⟩ 23)).setCell ⟨w_.heap.size, 0, none⟩ (.int .u8 t19_0_0)).setCell ⟨w_.heap.size, 1, none⟩ (.int .i64 t19_0_1)).setCell ⟨w_.heap.size, 2, none⟩ (.int .i64 t19_0_2)).setCell ⟨w_.heap.size, 3, none⟩ (.int .i64 t19_0_3)).setCell ⟨w_.heap.size, 4, none⟩ (.int .i64 t19_0_4)).frozen? ⟨w_.heap.size, 5, none⟩ = false ∧
    Calls Try.prog 18 ⟨[(.slice b_a b_l b_c)]⟩ (((((((w_.alloc (.cells ⟨[(.int .u8 0), (.int .i64 0), (.int .i64 0), (.int .i64 0), (.int .i64 0), (.int .i64 0)]⟩ 23)).setCell ⟨w_.heap.size, 0, none⟩ (.int .u8 t19_0_0)).setCell ⟨w_.heap.size, 1, none⟩ (.int .i64 t19_0_1)).setCell ⟨w_.heap.size, 2, none⟩ (.int .i64 t19_0_2)).setCell ⟨w_.heap.size, 3, none⟩ (.int .i64 t19_0_3)).setCell ⟨w_.heap.size, 4, none⟩ (.int .i64 t19_0_4)).setCell ⟨w_.heap.size, 5, none⟩ (.int .i64 t19_0_5)) fun e w__1 =>
      ∃ (t24_0_0 : Int) (t24_0_1 : Int) (t24_0_2 : Int) (t24_0_3 : Int) (t24_0_4 : Int) (t24_0_5 : Int) (t24_1 : Int),
      e = .returned (.tuple ⟨[(.agg ⟨[(.int .u8 t24_0_0), (.int .i64 t24_0_1), (.int .i64 t24_0_2), (.int .i64 t24_0_3), (.int .i64 t24_0_4), (.int .i64 t24_0_5)]⟩), (.int .i64 t24_1)]⟩) ∧
      (∃ u, (w__1.alloc (.cells ⟨[(.int .u8 0), (.int .i64 0), (.int .i64 0), (.int .i64 0), (.int .i64 0), (.int .i64 0)]⟩ 23)).cell? ⟨w__1.heap.size, 0, none⟩ = some u) ∧
      (w__1.alloc (.cells ⟨[(.int .u8 0), (.int .i64 0), (.int .i64 0), (.int .i64 0), (.int .i64 0), (.int .i64 0)]⟩ 23)).frozen? ⟨w__1.heap.size, 0, none⟩ = false ∧
      (∃ u, ((w__1.alloc (.cells ⟨[(.int .u8 0), (.int .i64 0), (.int .i64 0), (.int .i64 0), (.int .i64 0), (.int .i64 0)]⟩ 23)).setCell ⟨w__1.heap.size, 0, none⟩ (.int .u8 t24_0_0)).cell? ⟨w__1.heap.size, 1, none⟩ = some u) ∧
      ((w__1.alloc (.cells ⟨[(.int .u8 0), (.int .i64 0), (.int .i64 0), (.int .i64 0), (.int .i64 0), (.int .i64 0)]⟩ 23)).setCell ⟨w__1.heap.size, 0, none⟩ (.int .u8 t24_0_0)).frozen? ⟨w__1.heap.size, 1, none⟩ = false ∧
      (∃ u, (((w__1.alloc (.cells ⟨[(.int .u8 0), (.int .i64 0), (.int .i64 0), (.int .i64 0), (.int .i64 0), (.int .i64 0)]⟩ 23)).setCell ⟨w__1.heap.size, 0, none⟩ (.int .u8 t24_0_0)).setCell ⟨w__1.heap.size, 1, none⟩ (.int .i64 t24_0_1)).cell? ⟨w__1.heap.size, 2, none⟩ = some u) ∧
      (((w__1.alloc (.cells ⟨[(.int .u8 0), (.int .i64 0), (.int .i64 0), (.int .i64 0), (.int .i64 0), (.int .i64 0)]⟩ 23)).setCell ⟨w__1.heap.size, 0, none⟩ (.int .u8 t24_0_0)).setCell ⟨w__1.heap.size, 1, none⟩ (.int .i64 t24_0_1)).frozen? ⟨w__1.heap.size, 2, none⟩ = false ∧
      (∃ u, ((((w__1.alloc (.cells ⟨[(.int .u8 0), (.int .i64 0), (.int .i64 0), (.int .i64 0), (.int .i64 0), (.int .i64 0)]⟩ 23)).setCell ⟨w__1.heap.size, 0, none⟩ (.int .u8 t24_0_0)).setCell ⟨w__1.heap.size, 1, none⟩ (.int .i64 t24_0_1)).setCell ⟨w__1.heap.size, 2, none⟩ (.int .i64 t24_0_2)).cell? ⟨w__1.heap.size, 3, none⟩ = some u) ∧
      ((((w__1.alloc (.cells ⟨[(.int .u8 0), (.int .i64 0), (.int .i64 0), (.int .i64 0), (.int .i64 0), (.int .i64 0)]⟩ 23)).setCell ⟨w__1.heap.size, 0, none⟩ (.int .u8 t24_0_0)).setCell ⟨w__1.heap.size, 1, none⟩ (.int .i64 t24_0_1)).setCell ⟨w__1.heap.size, 2, none⟩ (.int .i64 t24_0_2)).frozen? ⟨w__1.heap.size, 3, none⟩ = false ∧
      (∃ u, (((((w__1.alloc (.cells ⟨[(.int .u8 0), (.int .i64 0), (.int .i64 0), (.int .i64 0), (.int .i64 0), (.int .i64 0)]⟩ 23)).setCell ⟨w__1.heap.size, 0, none⟩ (.int .u8 t24_0_0)).setCell ⟨w__1.heap.size, 1, none⟩ (.int .i64 t24_0_1)).setCell ⟨w__1.heap.size, 2, none⟩ (.int .i64 t24_0_2)).setCell ⟨w__1.heap.size, 3, none⟩ (.int .i64 t24_0_3)).cell? ⟨w__1.heap.size, 4, none⟩ = some u) ∧
      (((((w__1.alloc (.cells ⟨[(.int .u8 0), (.int .i64 0), (.int .i64 0), (.int .i64 0), (.int .i64 0), (.int .i64 0)]⟩ 23)).setCell ⟨w__1.heap.size, 0, none⟩ (.int .u8 t24_0_0)).setCell ⟨w__1.heap.size, 1, none⟩ (.int .i64 t24_0_1)).setCell ⟨w__1.heap.size, 2, none⟩ (.int .i64 t24_0_2)).setCell ⟨w__1.heap.size, 3, none⟩ (.int .i64 t24_0_3)).frozen? ⟨w__1.heap.size, 4, none⟩ = false ∧
      (∃ u, ((((((w__1.alloc (.cells ⟨[(.int .u8 0), (.int .i64 0), (.int .i64 0), (.int .i64 0), (.int .i64 0), (.int .i64 0)]⟩ 23)).setCell ⟨w__1.heap.size, 0, none⟩ (.int .u8 t24_0_0)).setCell ⟨w__1.heap.size, 1, none⟩ (.int .i64 t24_0_1)).setCell ⟨w__1.heap.size, 2, none⟩ (.int .i64 t24_0_2)).setCell ⟨w__1.heap.size, 3, none⟩ (.int .i64 t24_0_3)).setCell ⟨w__1.heap.size, 4, none⟩ (.int .i64 t24_0_4)).cell? ⟨w__1.heap.size, 5, none⟩ = some u) ∧
      ((((((w__1.alloc (.cells ⟨[(.int .u8 0), (.int .i64 0), (.int .i64 0), (.int .i64 0), (.int .i64 0), (.int .i64 0)]⟩ 23)).setCell ⟨w__1.heap.size, 0, none⟩ (.int .u8 t24_0_0)).setCell ⟨w__1.heap.size, 1, none⟩ (.int .i64 t24_0_1)).setCell ⟨w__1.heap.size, 2, none⟩ (.int .i64 t24_0_2)).setCell ⟨w__1.heap.size, 3, none⟩ (.int .i64 t24_0_3)).setCell ⟨w__1.heap.size, 4, none⟩ (.int .i64 t24_0_4)).frozen? ⟨w__1.heap.size, 5, none⟩ = false ∧
      Calls Try.prog 16 ⟨[(.slice b_a b_l b_c)]⟩ (((((((w__1.alloc (.cells ⟨[(.int .u8 0), (.int .i64 0), (.int .i64 0), (.int .i64 0), (.int .i64 0), (.int .i64 0)]⟩ 23)).setCell ⟨w__1.heap.size, 0, none⟩ (.int .u8 t24_0_0)).setCell ⟨w__1.heap.size, 1, none⟩ (.int .i64 t24_0_1)).setCell ⟨w__1.heap.size, 2, none⟩ (.int .i64 t24_0_2)).setCell ⟨w__1.heap.size, 3, none⟩ (.int .i64 t24_0_3)).setCell ⟨w__1.heap.size, 4, none⟩ (.int .i64 t24_0_4)).setCell ⟨w__1.heap.size, 5, none⟩ (.int .i64 t24_0_5)) fun e w__2 =>
        ∃ (t29_0_0 : Int) (t29_0_1 : Int) (t29_0_2 : Int) (t29_1 : Int),
        e = .returned (.tuple ⟨[(.agg ⟨[(.int .u8 t29_0_0), (.int .i64 t29_0_1), (.int .i64 t29_0_2)]⟩), (.int .i64 t29_1)]⟩) ∧
        (∃ u, (w__2.alloc (.cells ⟨[(.int .u8 0), (.int .i64 0), (.int .i64 0)]⟩ 31)).cell? ⟨w__2.heap.size, 0, none⟩ = some u) ∧
        (w__2.alloc (.cells ⟨[(.int .u8 0), (.int .i64 0), (.int .i64 0)]⟩ 31)).frozen? ⟨w__2.heap.size, 0, none⟩ = false ∧
        (∃ u, ((w__2.alloc (.cells ⟨[(.int .u8 0), (.int .i64 0), (.int .i64 0)]⟩ 31)).setCell ⟨w__2.heap.size, 0, none⟩ (.int .u8 t29_0_0)).cell? ⟨w__2.heap.size, 1, none⟩ = some u) ∧
        ((w__2.alloc (.cells ⟨[(.int .u8 0), (.int .i64 0), (.int .i64 0)]⟩ 31)).setCell ⟨w__2.heap.size, 0, none⟩ (.int .u8 t29_0_0)).frozen? ⟨w__2.heap.size, 1, none⟩ = false ∧
        (∃ u, (((w__2.alloc (.cells ⟨[(.int .u8 0), (.int .i64 0), (.int .i64 0)]⟩ 31)).setCell ⟨w__2.heap.size, 0, none⟩ (.int .u8 t29_0_0)).setCell ⟨w__2.heap.size, 1, none⟩ (.int .i64 t29_0_1)).cell? ⟨w__2.heap.size, 2, none⟩ = some u) ∧
        (((w__2.alloc (.cells ⟨[(.int .u8 0), (.int .i64 0), (.int .i64 0)]⟩ 31)).setCell ⟨w__2.heap.size, 0, none⟩ (.int .u8 t29_0_0)).setCell ⟨w__2.heap.size, 1, none⟩ (.int .i64 t29_0_1)).frozen? ⟨w__2.heap.size, 2, none⟩ = false ∧
        Calls Try.prog 19 ⟨[(.slice b_a b_l b_c)]⟩ ((((w__2.alloc (.cells ⟨[(.int .u8 0), (.int .i64 0), (.int .i64 0)]⟩ 31)).setCell ⟨w__2.heap.size, 0, none⟩ (.int .u8 t29_0_0)).setCell ⟨w__2.heap.size, 1, none⟩ (.int .i64 t29_0_1)).setCell ⟨w__2.heap.size, 2, none⟩ (.int .i64 t29_0_2)) fun e w__3 =>
          ∃ (t34_0_0 : Int) (t34_0_1 : Int) (t34_0_2 : Int) (t34_1 : Int),
          e = .returned (.tuple ⟨[(.agg ⟨[(.int .u8 t34_0_0), (.int .i64 t34_0_1), (.int .i64 t34_0_2)]⟩), (.int .i64 t34_1)]⟩) ∧
          (∃ u, (w__3.alloc (.cells ⟨[(.int .u8 0), (.int .i64 0), (.int .i64 0)]⟩ 31)).cell? ⟨w__3.heap.size, 0, none⟩ = some u) ∧
          (w__3.alloc (.cells ⟨[(.int .u8 0), (.int .i64 0), (.int .i64 0)]⟩ 31)).frozen? ⟨w__3.heap.size, 0, none⟩ = false ∧
          (∃ u, ((w__3.alloc (.cells ⟨[(.int .u8 0), (.int .i64 0), (.int .i64 0)]⟩ 31)).setCell ⟨w__3.heap.size, 0, none⟩ (.int .u8 t34_0_0)).cell? ⟨w__3.heap.size, 1, none⟩ = some u) ∧
          ((w__3.alloc (.cells ⟨[(.int .u8 0), (.int .i64 0), (.int .i64 0)]⟩ 31)).setCell ⟨w__3.heap.size, 0, none⟩ (.int .u8 t34_0_0)).frozen? ⟨w__3.heap.size, 1, none⟩ = false ∧
          (∃ u, (((w__3.alloc (.cells ⟨[(.int .u8 0), (.int .i64 0), (.int .i64 0)]⟩ 31)).setCell ⟨w__3.heap.size, 0, none⟩ (.int .u8 t34_0_0)).setCell ⟨w__3.heap.size, 1, none⟩ (.int .i64 t34_0_1)).cell? ⟨w__3.heap.size, 2, none⟩ = some u) ∧
          (((w__3.alloc (.cells ⟨[(.int .u8 0), (.int .i64 0), (.int .i64 0)]⟩ 31)).setCell ⟨w__3.heap.size, 0, none⟩ (.int .u8 t34_0_0)).setCell ⟨w__3.heap.size, 1, none⟩ (.int .i64 t34_0_1)).frozen? ⟨w__3.heap.size, 2, none⟩ = false ∧
          cond head (
            ∃ (t39_0 : Int),
            ((((w__3.alloc (.cells ⟨[(.int .u8 0), (.int .i64 0), (.int .i64 0)]⟩ 31)).setCell ⟨w__3.heap.size, 0, none⟩ (.int .u8 t34_0_0)).setCell ⟨w__3.heap.size, 1, none⟩ (.int .i64 t34_0_1)).setCell ⟨w__3.heap.size, 2, none⟩ (.int .i64 t34_0_2)).cell? ⟨w_.heap.size, 0, none⟩ = some (.int .u8 t39_0) ∧
            ∃ (t39_1 : Int),
            ((((w__3.alloc (.cells ⟨[(.int .u8 0), (.int .i64 0), (.int .i64 0)]⟩ 31)).setCell ⟨w__3.heap.size, 0, none⟩ (.int .u8 t34_0_0)).setCell ⟨w__3.heap.size, 1, none⟩ (.int .i64 t34_0_1)).setCell ⟨w__3.heap.size, 2, none⟩ (.int .i64 t34_0_2)).cell? ⟨w_.heap.size, 1, none⟩ = some (.int .i64 t39_1) ∧
            ∃ (t39_2 : Int),
            ((((w__3.alloc (.cells ⟨[(.int .u8 0), (.int .i64 0), (.int .i64 0)]⟩ 31)).setCell ⟨w__3.heap.size, 0, none⟩ (.int .u8 t34_0_0)).setCell ⟨w__3.heap.size, 1, none⟩ (.int .i64 t34_0_1)).setCell ⟨w__3.heap.size, 2, none⟩ (.int .i64 t34_0_2)).cell? ⟨w_.heap.size, 2, none⟩ = some (.int .i64 t39_2) ∧
            ∃ (t39_3 : Int),
            ((((w__3.alloc (.cells ⟨[(.int .u8 0), (.int .i64 0), (.int .i64 0)]⟩ 31)).setCell ⟨w__3.heap.size, 0, none⟩ (.int .u8 t34_0_0)).setCell ⟨w__3.heap.size, 1, none⟩ (.int .i64 t34_0_1)).setCell ⟨w__3.heap.size, 2, none⟩ (.int .i64 t34_0_2)).cell? ⟨w_.heap.size, 3, none⟩ = some (.int .i64 t39_3) ∧
            ∃ (t39_4 : Int),
            ((((w__3.alloc (.cells ⟨[(.int .u8 0), (.int .i64 0), (.int .i64 0)]⟩ 31)).setCell ⟨w__3.heap.size, 0, none⟩ (.int .u8 t34_0_0)).setCell ⟨w__3.heap.size, 1, none⟩ (.int .i64 t34_0_1)).setCell ⟨w__3.heap.size, 2, none⟩ (.int .i64 t34_0_2)).cell? ⟨w_.heap.size, 4, none⟩ = some (.int .i64 t39_4) ∧
            ∃ (t39_5 : Int),
            ((((w__3.alloc (.cells ⟨[(.int .u8 0), (.int .i64 0), (.int .i64 0)]⟩ 31)).setCell ⟨w__3.heap.size, 0, none⟩ (.int .u8 t34_0_0)).setCell ⟨w__3.heap.size, 1, none⟩ (.int .i64 t34_0_1)).setCell ⟨w__3.heap.size, 2, none⟩ (.int .i64 t34_0_2)).cell? ⟨w_.heap.size, 5, none⟩ = some (.int .i64 t39_5) ∧
            ∃ (t40_0 : Int),
            ((((w__3.alloc (.cells ⟨[(.int .u8 0), (.int .i64 0), (.int .i64 0)]⟩ 31)).setCell ⟨w__3.heap.size, 0, none⟩ (.int .u8 t34_0_0)).setCell ⟨w__3.heap.size, 1, none⟩ (.int .i64 t34_0_1)).setCell ⟨w__3.heap.size, 2, none⟩ (.int .i64 t34_0_2)).cell? ⟨w__1.heap.size, 0, none⟩ = some (.int .u8 t40_0) ∧
            ∃ (t40_1 : Int),
            ((((w__3.alloc (.cells ⟨[(.int .u8 0), (.int .i64 0), (.int .i64 0)]⟩ 31)).setCell ⟨w__3.heap.size, 0, none⟩ (.int .u8 t34_0_0)).setCell ⟨w__3.heap.size, 1, none⟩ (.int .i64 t34_0_1)).setCell ⟨w__3.heap.size, 2, none⟩ (.int .i64 t34_0_2)).cell? ⟨w__1.heap.size, 1, none⟩ = some (.int .i64 t40_1) ∧
            ∃ (t40_2 : Int),
            ((((w__3.alloc (.cells ⟨[(.int .u8 0), (.int .i64 0), (.int .i64 0)]⟩ 31)).setCell ⟨w__3.heap.size, 0, none⟩ (.int .u8 t34_0_0)).setCell ⟨w__3.heap.size, 1, none⟩ (.int .i64 t34_0_1)).setCell ⟨w__3.heap.size, 2, none⟩ (.int .i64 t34_0_2)).cell? ⟨w__1.heap.size, 2, none⟩ = some (.int .i64 t40_2) ∧
            ∃ (t40_3 : Int),
            ((((w__3.alloc (.cells ⟨[(.int .u8 0), (.int .i64 0), (.int .i64 0)]⟩ 31)).setCell ⟨w__3.heap.size, 0, none⟩ (.int .u8 t34_0_0)).setCell ⟨w__3.heap.size, 1, none⟩ (.int .i64 t34_0_1)).setCell ⟨w__3.heap.size, 2, none⟩ (.int .i64 t34_0_2)).cell? ⟨w__1.heap.size, 3, none⟩ = some (.int .i64 t40_3) ∧
            ∃ (t40_4 : Int),
            ((((w__3.alloc (.cells ⟨[(.int .u8 0), (.int .i64 0), (.int .i64 0)]⟩ 31)).setCell ⟨w__3.heap.size, 0, none⟩ (.int .u8 t34_0_0)).setCell ⟨w__3.heap.size, 1, none⟩ (.int .i64 t34_0_1)).setCell ⟨w__3.heap.size, 2, none⟩ (.int .i64 t34_0_2)).cell? ⟨w__1.heap.size, 4, none⟩ = some (.int .i64 t40_4) ∧
            ∃ (t40_5 : Int),
            ((((w__3.alloc (.cells ⟨[(.int .u8 0), (.int .i64 0), (.int .i64 0)]⟩ 31)).setCell ⟨w__3.heap.size, 0, none⟩ (.int .u8 t34_0_0)).setCell ⟨w__3.heap.size, 1, none⟩ (.int .i64 t34_0_1)).setCell ⟨w__3.heap.size, 2, none⟩ (.int .i64 t34_0_2)).cell? ⟨w__1.heap.size, 5, none⟩ = some (.int .i64 t40_5) ∧
            ∃ (t41 : Bool) (w__4 : World),
            (do eqGuard .eql 23 (.tmp 39) (.tmp 40) (.agg ⟨[(.int .u8 t39_0), (.int .i64 t39_1), (.int .i64 t39_2), (.int .i64 t39_3), (.int .i64 t39_4), (.int .i64 t39_5)]⟩) (.agg ⟨[(.int .u8 t40_0), (.int .i64 t40_1), (.int .i64 t40_2), (.int .i64 t40_3), (.int .i64 t40_4), (.int .i64 t40_5)]⟩); binOp .eql 23 (.agg ⟨[(.int .u8 t39_0), (.int .i64 t39_1), (.int .i64 t39_2), (.int .i64 t39_3), (.int .i64 t39_4), (.int .i64 t39_5)]⟩) (.agg ⟨[(.int .u8 t40_0), (.int .i64 t40_1), (.int .i64 t40_2), (.int .i64 t40_3), (.int .i64 t40_4), (.int .i64 t40_5)]⟩)).run Try.prog ((((w__3.alloc (.cells ⟨[(.int .u8 0), (.int .i64 0), (.int .i64 0)]⟩ 31)).setCell ⟨w__3.heap.size, 0, none⟩ (.int .u8 t34_0_0)).setCell ⟨w__3.heap.size, 1, none⟩ (.int .i64 t34_0_1)).setCell ⟨w__3.heap.size, 2, none⟩ (.int .i64 t34_0_2)) = .ok (.bool t41) w__4 ∧
            cond t41 (
              cond (decide ((t19_1 : Int) = t24_1)) (
                ∃ (t49_0 : Int),
                w__4.cell? ⟨w__2.heap.size, 0, none⟩ = some (.int .u8 t49_0) ∧
                ∃ (t49_1 : Int),
                w__4.cell? ⟨w__2.heap.size, 1, none⟩ = some (.int .i64 t49_1) ∧
                ∃ (t49_2 : Int),
                w__4.cell? ⟨w__2.heap.size, 2, none⟩ = some (.int .i64 t49_2) ∧
                ∃ (t50_0 : Int),
                w__4.cell? ⟨w__3.heap.size, 0, none⟩ = some (.int .u8 t50_0) ∧
                ∃ (t50_1 : Int),
                w__4.cell? ⟨w__3.heap.size, 1, none⟩ = some (.int .i64 t50_1) ∧
                ∃ (t50_2 : Int),
                w__4.cell? ⟨w__3.heap.size, 2, none⟩ = some (.int .i64 t50_2) ∧
                ∃ (t51 : Bool) (w__5 : World),
                (do eqGuard .eql 31 (.tmp 49) (.tmp 50) (.agg ⟨[(.int .u8 t49_0), (.int .i64 t49_1), (.int .i64 t49_2)]⟩) (.agg ⟨[(.int .u8 t50_0), (.int .i64 t50_1), (.int .i64 t50_2)]⟩); binOp .eql 31 (.agg ⟨[(.int .u8 t49_0), (.int .i64 t49_1), (.int .i64 t49_2)]⟩) (.agg ⟨[(.int .u8 t50_0), (.int .i64 t50_1), (.int .i64 t50_2)]⟩)).run Try.prog w__4 = .ok (.bool t51) w__5 ∧
                cond t51 (
                  R (.bool (decide ((t29_1 : Int) = t34_1))) w__5
                ) (
                  R (.bool false) w__5
                )
              ) (
                R (.bool false) w__4
              )
            ) (
              R (.bool false) w__4
            )
          ) (
            R (.bool false) ((((w__3.alloc (.cells ⟨[(.int .u8 0), (.int .i64 0), (.int .i64 0)]⟩ 31)).setCell ⟨w__3.heap.size, 0, none⟩ (.int .u8 t34_0_0)).setCell ⟨w__3.heap.size, 1, none⟩ (.int .i64 t34_0_1)).setCell ⟨w__3.heap.size, 2, none⟩ (.int .i64 t34_0_2))
          )

def S8 (b_a : Option Addr) (b_l : Nat) (b_c : Nat) (w : World) (R : Value → World → Prop) : Prop :=
  Calls Try.prog 11 ⟨[]⟩ w fun e w_ =>
    ∃ (t12 : Bool),
    e = .returned (.bool t12) ∧
    cond (decide ((1000 : Int) < ((b_l : Nat) : Int))) (
      R (.bool t12) w_
    ) (
      S8_k0 b_a b_l b_c t12 w_ R
    )

theorem S8_eq (b_a : Option Addr) (b_l : Nat) (b_c : Nat) (w : World) (R : Value → World → Prop) : Eng.R Try.prog ⟨cal, S8_nx⟩ 58 S8_ann [] (Try.f8.body.getD .skip) (bodyQ Try.prog #[.tmp 2] R) (argE [(.slice b_a b_l b_c)]) w = S8 b_a b_l b_c w R := by kernel_rfl
/-- A call of 'carfax/carfaxlaw17.RecordTakes', by its condition. -/
theorem S8_calls {b_a : Option Addr} {b_l : Nat} {b_c : Nat} {w : World} {R : Value → World → Prop} (hS : S8 b_a b_l b_c w R) : Ret Try.prog 8 [(.slice b_a b_l b_c)] w R :=
  R_calls (C := ⟨cal, S8_nx⟩) cal_ok follows Try.func8 (c := Try.f8.body.getD .skip) (res := #[.tmp 2]) (n := 58) (by kernel_rfl) (by kernel_rfl) (by kernel_rfl) (by kernel_rfl) ((S8_eq b_a b_l b_c w R).mpr hS)

def S9_ann (p : List Nat) : Option LA :=
  none

def S9_nx (t : Nat) : Option (TypeId × TypeId) := none

def S9_k3 (w_ : Addr) (w : World) (R : Value → World → Prop) : Prop :=
  ∃ (t54 : Option Addr),
  w.cell? w_ = some (.pointer t54) ∧
  Calls Try.prog 24 ⟨[(.pointer t54)]⟩ w fun e w__1 =>
    ∃ (t55_a : Option Addr) (t55_l : Nat) (t55_c : Nat),
    e = .returned (.slice t55_a t55_l t55_c) ∧
    R (.tuple ⟨[(.slice t55_a t55_l t55_c), (.int .i64 0)]⟩) w__1

def S9_k2 (r : Addr) (has : Int) (w_ : Addr) (put_f0_0 : Option Addr) (w : World) (R : Value → World → Prop) : Prop :=
  cond (!decide (((bitsI .and .i64 has 4) : Int) = 0)) (
    ∃ (t43 : Int),
    w.cell? (r.add 3) = some (.int .i64 t43) ∧
    Calls Try.prog 22 ⟨[(.agg ⟨[(.pointer put_f0_0)]⟩), (.int .i64 t43), (.int .i64 6)]⟩ w fun e w__1 =>
      e = .returned (.tuple ⟨[]⟩) ∧
      ∃ (t47 : Int),
      w__1.cell? (r.add 4) = some (.int .i64 t47) ∧
      Calls Try.prog 22 ⟨[(.agg ⟨[(.pointer put_f0_0)]⟩), (.int .i64 t47), (.int .i64 8)]⟩ w__1 fun e w__2 =>
        e = .returned (.tuple ⟨[]⟩) ∧
        ∃ (t51 : Int),
        w__2.cell? (r.add 5) = some (.int .i64 t51) ∧
        Calls Try.prog 22 ⟨[(.agg ⟨[(.pointer put_f0_0)]⟩), (.int .i64 t51), (.int .i64 3)]⟩ w__2 fun e w__3 =>
          e = .returned (.tuple ⟨[]⟩) ∧
          S9_k3 w_ w__3 R
  ) (
    S9_k3 w_ w R
  )

def S9_k1 (r : Addr) (has : Int) (w_ : Addr) (put_f0_0 : Option Addr) (w : World) (R : Value → World → Prop) : Prop :=
  cond (!decide (((bitsI .and .i64 has 2) : Int) = 0)) (
    ∃ (t36 : Int),
    w.cell? (r.add 2) = some (.int .i64 t36) ∧
    Calls Try.prog 22 ⟨[(.agg ⟨[(.pointer put_f0_0)]⟩), (.int .i64 t36), (.int .i64 3)]⟩ w fun e w__1 =>
      e = .returned (.tuple ⟨[]⟩) ∧
      S9_k2 r has w_ put_f0_0 w__1 R
  ) (
    S9_k2 r has w_ put_f0_0 w R
  )

def S9_k0 (r : Addr) (w : World) (R : Value → World → Prop) : Prop :=
  ∃ (t11 : Int),
  w.cell? r = some (.int .u8 t11) ∧
  Calls Try.prog 20 ⟨[(.int .u8 t11)]⟩ w fun e w_ =>
    ∃ (t12 : Int),
    e = .returned (.int .i64 t12) ∧
    Calls Try.prog 21 ⟨[]⟩ w_ fun e w__1 =>
      ∃ (t13 : Option Addr),
      e = .returned (.pointer t13) ∧
      (∃ u, (w__1.alloc (.cells ⟨[(.pointer none)]⟩ 45)).cell? ⟨w__1.heap.size, 0, none⟩ = some u) ∧
      (w__1.alloc (.cells ⟨[(.pointer none)]⟩ 45)).frozen? ⟨w__1.heap.size, 0, none⟩ = false ∧
      ∃ (t15_0 : Option Addr),
      ((w__1.alloc (.cells ⟨[(.pointer none)]⟩ 45)).setCell ⟨w__1.heap.size, 0, none⟩ (.pointer t13)).cell? ⟨w__1.heap.size, 0, none⟩ = some (.pointer t15_0) ∧
      ∃ (t19 : Int),
      ((w__1.alloc (.cells ⟨[(.pointer none)]⟩ 45)).setCell ⟨w__1.heap.size, 0, none⟩ (.pointer t13)).cell? r = some (.int .u8 t19) ∧
      Calls Try.prog 22 ⟨[(.agg ⟨[(.pointer t15_0)]⟩), (.int .i64 (IntKind.i64.wrap t19)), (.int .i64 3)]⟩ ((w__1.alloc (.cells ⟨[(.pointer none)]⟩ 45)).setCell ⟨w__1.heap.size, 0, none⟩ (.pointer t13)) fun e w__2 =>
        e = .returned (.tuple ⟨[]⟩) ∧
        cond (!decide (((bitsI .and .i64 t12 1) : Int) = 0)) (
          ∃ (t26 : Option Addr),
          w__2.cell? ⟨w__1.heap.size, 0, none⟩ = some (.pointer t26) ∧
          ∃ (t28 : Int),
          w__2.cell? (r.add 1) = some (.int .i64 t28) ∧
          Calls Try.prog 23 ⟨[(.pointer t26), (.int .u64 (IntKind.u64.wrap t28))]⟩ w__2 fun e w__3 =>
            ∃ (t30 : Int),
            e = .returned (.int .i64 t30) ∧
            S9_k1 r t12 ⟨w__1.heap.size, 0, none⟩ t15_0 w__3 R
        ) (
          S9_k1 r t12 ⟨w__1.heap.size, 0, none⟩ t15_0 w__2 R
        )

def S9 (r_0 : Int) (r_1 : Int) (r_2 : Int) (r_3 : Int) (r_4 : Int) (r_5 : Int) (w : World) (R : Value → World → Prop) : Prop :=
  ∃ (t7_0 : Int),
  (w.alloc (.cells ⟨[(.int .u8 r_0), (.int .i64 r_1), (.int .i64 r_2), (.int .i64 r_3), (.int .i64 r_4), (.int .i64 r_5)]⟩ 23)).cell? ⟨w.heap.size, 0, none⟩ = some (.int .u8 t7_0) ∧
  ∃ (t7_1 : Int),
  (w.alloc (.cells ⟨[(.int .u8 r_0), (.int .i64 r_1), (.int .i64 r_2), (.int .i64 r_3), (.int .i64 r_4), (.int .i64 r_5)]⟩ 23)).cell? ⟨w.heap.size, 1, none⟩ = some (.int .i64 t7_1) ∧
  ∃ (t7_2 : Int),
  (w.alloc (.cells ⟨[(.int .u8 r_0), (.int .i64 r_1), (.int .i64 r_2), (.int .i64 r_3), (.int .i64 r_4), (.int .i64 r_5)]⟩ 23)).cell? ⟨w.heap.size, 2, none⟩ = some (.int .i64 t7_2) ∧
  ∃ (t7_3 : Int),
  (w.alloc (.cells ⟨[(.int .u8 r_0), (.int .i64 r_1), (.int .i64 r_2), (.int .i64 r_3), (.int .i64 r_4), (.int .i64 r_5)]⟩ 23)).cell? ⟨w.heap.size, 3, none⟩ = some (.int .i64 t7_3) ∧
  ∃ (t7_4 : Int),
  (w.alloc (.cells ⟨[(.int .u8 r_0), (.int .i64 r_1), (.int .i64 r_2), (.int .i64 r_3), (.int .i64 r_4), (.int .i64 r_5)]⟩ 23)).cell? ⟨w.heap.size, 4, none⟩ = some (.int .i64 t7_4) ∧
  ∃ (t7_5 : Int),
  (w.alloc (.cells ⟨[(.int .u8 r_0), (.int .i64 r_1), (.int .i64 r_2), (.int .i64 r_3), (.int .i64 r_4), (.int .i64 r_5)]⟩ 23)).cell? ⟨w.heap.size, 5, none⟩ = some (.int .i64 t7_5) ∧
  Calls Try.prog 12 ⟨[(.agg ⟨[(.int .u8 t7_0), (.int .i64 t7_1), (.int .i64 t7_2), (.int .i64 t7_3), (.int .i64 t7_4), (.int .i64 t7_5)]⟩)]⟩ (w.alloc (.cells ⟨[(.int .u8 r_0), (.int .i64 r_1), (.int .i64 r_2), (.int .i64 r_3), (.int .i64 r_4), (.int .i64 r_5)]⟩ 23)) fun e w_ =>
    ∃ (t8 : Bool),
    e = .returned (.bool t8) ∧
    cond (!t8) (
      R (.tuple ⟨[(.slice none 0 0), (.int .i64 1)]⟩) w_
    ) (
      S9_k0 ⟨w.heap.size, 0, none⟩ w_ R
    )

theorem S9_eq (r_0 : Int) (r_1 : Int) (r_2 : Int) (r_3 : Int) (r_4 : Int) (r_5 : Int) (w : World) (R : Value → World → Prop) : Eng.R Try.prog ⟨cal, S9_nx⟩ 56 S9_ann [] (Try.f9.body.getD .skip) (bodyQ Try.prog #[.tmp 2, .tmp 3] R) (argE [(.agg ⟨[(.int .u8 r_0), (.int .i64 r_1), (.int .i64 r_2), (.int .i64 r_3), (.int .i64 r_4), (.int .i64 r_5)]⟩)]) w = S9 r_0 r_1 r_2 r_3 r_4 r_5 w R := by kernel_rfl
/-- A call of 'carfax/record.Lay', by its condition. -/
theorem S9_calls {r_0 : Int} {r_1 : Int} {r_2 : Int} {r_3 : Int} {r_4 : Int} {r_5 : Int} {w : World} {R : Value → World → Prop} (hS : S9 r_0 r_1 r_2 r_3 r_4 r_5 w R) : Ret Try.prog 9 [(.agg ⟨[(.int .u8 r_0), (.int .i64 r_1), (.int .i64 r_2), (.int .i64 r_3), (.int .i64 r_4), (.int .i64 r_5)]⟩)] w R :=
  R_calls (C := ⟨cal, S9_nx⟩) cal_ok follows Try.func9 (c := Try.f9.body.getD .skip) (res := #[.tmp 2, .tmp 3]) (n := 56) (by kernel_rfl) (by kernel_rfl) (by kernel_rfl) (by kernel_rfl) ((S9_eq r_0 r_1 r_2 r_3 r_4 r_5 w R).mpr hS)

def S10_ann (p : List Nat) : Option LA :=
  none

def S10_nx (t : Nat) : Option (TypeId × TypeId) := none

def S10_k4 (l_a : Option Addr) (l_l : Nat) (l_c : Nat) (w : World) (R : Value → World → Prop) : Prop :=
  Calls Try.prog 27 ⟨[(.slice l_a l_l l_c)]⟩ w fun e w_ =>
    ∃ (t57_a : Option Addr) (t57_l : Nat) (t57_c : Nat),
    e = .returned (.slice t57_a t57_l t57_c) ∧
    R (.tuple ⟨[(.slice t57_a t57_l t57_c), (.int .i64 0)]⟩) w_

def S10_k3 (r : Addr) (l_a : Option Addr) (l_l : Nat) (l_c : Nat) (w : World) (R : Value → World → Prop) : Prop :=
  ∃ (t36 : Int),
  w.cell? r = some (.int .u8 t36) ∧
  cond (decide ((t36 : Int) = 1)) (
    ∃ (t40 : Int),
    w.cell? (r.add 3) = some (.int .i64 t40) ∧
    Calls Try.prog 25 ⟨[(.int .u64 (IntKind.u64.wrap t40)), (.int .i64 6)]⟩ w fun e w_ =>
      ∃ (t42_a : Option Addr) (t42_l : Nat) (t42_c : Nat),
      e = .returned (.slice t42_a t42_l t42_c) ∧
      ∃ (t43_a : Option Addr) (t43_l : Nat) (t43_c : Nat) (w__1 : World),
      (Builtin.append_ #[50, 50] 50 ⟨[(.slice l_a l_l l_c), (.slice t42_a t42_l t42_c)]⟩).run Try.prog w_ = .ok (.slice t43_a t43_l t43_c) w__1 ∧
      ∃ (t46 : Int),
      w__1.cell? (r.add 4) = some (.int .i64 t46) ∧
      Calls Try.prog 25 ⟨[(.int .u64 (IntKind.u64.wrap t46)), (.int .i64 8)]⟩ w__1 fun e w__2 =>
        ∃ (t48_a : Option Addr) (t48_l : Nat) (t48_c : Nat),
        e = .returned (.slice t48_a t48_l t48_c) ∧
        ∃ (t49_a : Option Addr) (t49_l : Nat) (t49_c : Nat) (w__3 : World),
        (Builtin.append_ #[50, 50] 50 ⟨[(.slice t43_a t43_l t43_c), (.slice t48_a t48_l t48_c)]⟩).run Try.prog w__2 = .ok (.slice t49_a t49_l t49_c) w__3 ∧
        ∃ (t52 : Int),
        w__3.cell? (r.add 5) = some (.int .i64 t52) ∧
        Calls Try.prog 25 ⟨[(.int .u64 (IntKind.u64.wrap t52)), (.int .i64 3)]⟩ w__3 fun e w__4 =>
          ∃ (t54_a : Option Addr) (t54_l : Nat) (t54_c : Nat),
          e = .returned (.slice t54_a t54_l t54_c) ∧
          ∃ (t55_a : Option Addr) (t55_l : Nat) (t55_c : Nat) (w__5 : World),
          (Builtin.append_ #[50, 50] 50 ⟨[(.slice t49_a t49_l t49_c), (.slice t54_a t54_l t54_c)]⟩).run Try.prog w__4 = .ok (.slice t55_a t55_l t55_c) w__5 ∧
          S10_k4 t55_a t55_l t55_c w__5 R
  ) (
    S10_k4 l_a l_l l_c w R
  )

def S10_k2 (r : Addr) (l_a : Option Addr) (l_l : Nat) (l_c : Nat) (w : World) (R : Value → World → Prop) : Prop :=
  ∃ (t27 : Int),
  w.cell? r = some (.int .u8 t27) ∧
  cond (decide ((3 : Int) ≤ t27)) (
    ∃ (t31 : Int),
    w.cell? (r.add 2) = some (.int .i64 t31) ∧
    Calls Try.prog 25 ⟨[(.int .u64 (IntKind.u64.wrap t31)), (.int .i64 3)]⟩ w fun e w_ =>
      ∃ (t33_a : Option Addr) (t33_l : Nat) (t33_c : Nat),
      e = .returned (.slice t33_a t33_l t33_c) ∧
      ∃ (t34_a : Option Addr) (t34_l : Nat) (t34_c : Nat) (w__1 : World),
      (Builtin.append_ #[50, 50] 50 ⟨[(.slice l_a l_l l_c), (.slice t33_a t33_l t33_c)]⟩).run Try.prog w_ = .ok (.slice t34_a t34_l t34_c) w__1 ∧
      S10_k3 r t34_a t34_l t34_c w__1 R
  ) (
    S10_k3 r l_a l_l l_c w R
  )

def S10_k1 (r : Addr) (l_a : Option Addr) (l_l : Nat) (l_c : Nat) (t19 : Bool) (w : World) (R : Value → World → Prop) : Prop :=
  cond t19 (
    ∃ (t22 : Int),
    w.cell? (r.add 1) = some (.int .i64 t22) ∧
    Calls Try.prog 26 ⟨[(.int .u64 (IntKind.u64.wrap t22))]⟩ w fun e w_ =>
      ∃ (t24_a : Option Addr) (t24_l : Nat) (t24_c : Nat),
      e = .returned (.slice t24_a t24_l t24_c) ∧
      ∃ (t25_a : Option Addr) (t25_l : Nat) (t25_c : Nat) (w__1 : World),
      (Builtin.append_ #[50, 50] 50 ⟨[(.slice l_a l_l l_c), (.slice t24_a t24_l t24_c)]⟩).run Try.prog w_ = .ok (.slice t25_a t25_l t25_c) w__1 ∧
      S10_k2 r t25_a t25_l t25_c w__1 R
  ) (
    S10_k2 r l_a l_l l_c w R
  )

def S10_k0 (r : Addr) (w : World) (R : Value → World → Prop) : Prop :=
  ∃ (t9 : Int),
  w.cell? r = some (.int .u8 t9) ∧
  Calls Try.prog 25 ⟨[(.int .u64 (IntKind.u64.wrap t9)), (.int .i64 3)]⟩ w fun e w_ =>
    ∃ (t11_a : Option Addr) (t11_l : Nat) (t11_c : Nat),
    e = .returned (.slice t11_a t11_l t11_c) ∧
    ∃ (t13 : Int),
    w_.cell? r = some (.int .u8 t13) ∧
    cond (decide ((t13 : Int) = 2)) (
      S10_k1 r t11_a t11_l t11_c true w_ R
    ) (
      ∃ (t17 : Int),
      w_.cell? r = some (.int .u8 t17) ∧
      S10_k1 r t11_a t11_l t11_c (decide ((t17 : Int) = 3)) w_ R
    )

def S10 (r_0 : Int) (r_1 : Int) (r_2 : Int) (r_3 : Int) (r_4 : Int) (r_5 : Int) (w : World) (R : Value → World → Prop) : Prop :=
  ∃ (t5_0 : Int),
  (w.alloc (.cells ⟨[(.int .u8 r_0), (.int .i64 r_1), (.int .i64 r_2), (.int .i64 r_3), (.int .i64 r_4), (.int .i64 r_5)]⟩ 23)).cell? ⟨w.heap.size, 0, none⟩ = some (.int .u8 t5_0) ∧
  ∃ (t5_1 : Int),
  (w.alloc (.cells ⟨[(.int .u8 r_0), (.int .i64 r_1), (.int .i64 r_2), (.int .i64 r_3), (.int .i64 r_4), (.int .i64 r_5)]⟩ 23)).cell? ⟨w.heap.size, 1, none⟩ = some (.int .i64 t5_1) ∧
  ∃ (t5_2 : Int),
  (w.alloc (.cells ⟨[(.int .u8 r_0), (.int .i64 r_1), (.int .i64 r_2), (.int .i64 r_3), (.int .i64 r_4), (.int .i64 r_5)]⟩ 23)).cell? ⟨w.heap.size, 2, none⟩ = some (.int .i64 t5_2) ∧
  ∃ (t5_3 : Int),
  (w.alloc (.cells ⟨[(.int .u8 r_0), (.int .i64 r_1), (.int .i64 r_2), (.int .i64 r_3), (.int .i64 r_4), (.int .i64 r_5)]⟩ 23)).cell? ⟨w.heap.size, 3, none⟩ = some (.int .i64 t5_3) ∧
  ∃ (t5_4 : Int),
  (w.alloc (.cells ⟨[(.int .u8 r_0), (.int .i64 r_1), (.int .i64 r_2), (.int .i64 r_3), (.int .i64 r_4), (.int .i64 r_5)]⟩ 23)).cell? ⟨w.heap.size, 4, none⟩ = some (.int .i64 t5_4) ∧
  ∃ (t5_5 : Int),
  (w.alloc (.cells ⟨[(.int .u8 r_0), (.int .i64 r_1), (.int .i64 r_2), (.int .i64 r_3), (.int .i64 r_4), (.int .i64 r_5)]⟩ 23)).cell? ⟨w.heap.size, 5, none⟩ = some (.int .i64 t5_5) ∧
  Calls Try.prog 13 ⟨[(.agg ⟨[(.int .u8 t5_0), (.int .i64 t5_1), (.int .i64 t5_2), (.int .i64 t5_3), (.int .i64 t5_4), (.int .i64 t5_5)]⟩)]⟩ (w.alloc (.cells ⟨[(.int .u8 r_0), (.int .i64 r_1), (.int .i64 r_2), (.int .i64 r_3), (.int .i64 r_4), (.int .i64 r_5)]⟩ 23)) fun e w_ =>
    ∃ (t6 : Bool),
    e = .returned (.bool t6) ∧
    cond (!t6) (
      R (.tuple ⟨[(.slice none 0 0), (.int .i64 1)]⟩) w_
    ) (
      S10_k0 ⟨w.heap.size, 0, none⟩ w_ R
    )

theorem S10_eq (r_0 : Int) (r_1 : Int) (r_2 : Int) (r_3 : Int) (r_4 : Int) (r_5 : Int) (w : World) (R : Value → World → Prop) : Eng.R Try.prog ⟨cal, S10_nx⟩ 58 S10_ann [] (Try.f10.body.getD .skip) (bodyQ Try.prog #[.tmp 2, .tmp 3] R) (argE [(.agg ⟨[(.int .u8 r_0), (.int .i64 r_1), (.int .i64 r_2), (.int .i64 r_3), (.int .i64 r_4), (.int .i64 r_5)]⟩)]) w = S10 r_0 r_1 r_2 r_3 r_4 r_5 w R := by kernel_rfl
/-- A call of 'carfax/carfaxref17.Lay', by its condition. -/
theorem S10_calls {r_0 : Int} {r_1 : Int} {r_2 : Int} {r_3 : Int} {r_4 : Int} {r_5 : Int} {w : World} {R : Value → World → Prop} (hS : S10 r_0 r_1 r_2 r_3 r_4 r_5 w R) : Ret Try.prog 10 [(.agg ⟨[(.int .u8 r_0), (.int .i64 r_1), (.int .i64 r_2), (.int .i64 r_3), (.int .i64 r_4), (.int .i64 r_5)]⟩)] w R :=
  R_calls (C := ⟨cal, S10_nx⟩) cal_ok follows Try.func10 (c := Try.f10.body.getD .skip) (res := #[.tmp 2, .tmp 3]) (n := 58) (by kernel_rfl) (by kernel_rfl) (by kernel_rfl) (by kernel_rfl) ((S10_eq r_0 r_1 r_2 r_3 r_4 r_5 w R).mpr hS)

def S11_ann (p : List Nat) : Option LA :=
  none

def S11_nx (t : Nat) : Option (TypeId × TypeId) := none

def S11 (w : World) (R : Value → World → Prop) : Prop :=
  Calls Try.prog 9 ⟨[(.agg ⟨[(.int .u8 5), (.int .i64 0), (.int .i64 5), (.int .i64 0), (.int .i64 0), (.int .i64 0)]⟩)]⟩ w fun e w_ =>
    ∃ (t7_0_a : Option Addr) (t7_0_l : Nat) (t7_0_c : Nat) (t7_1 : Int),
    e = .returned (.tuple ⟨[(.slice t7_0_a t7_0_l t7_0_c), (.int .i64 t7_1)]⟩) ∧
    Calls Try.prog 14 ⟨[(.agg ⟨[(.int .u8 1), (.int .i64 7), (.int .i64 0)]⟩)]⟩ w_ fun e w__1 =>
      ∃ (t12_0_a : Option Addr) (t12_0_l : Nat) (t12_0_c : Nat) (t12_1 : Int),
      e = .returned (.tuple ⟨[(.slice t12_0_a t12_0_l t12_0_c), (.int .i64 t12_1)]⟩) ∧
      cond (decide ((t7_1 : Int) = 0)) (
        cond (decide ((t12_1 : Int) = 0)) (
          ∃ (t23 : ByteArray) (w__2 : World),
          (convert 24 9 (.slice t7_0_a t7_0_l t7_0_c)).run Try.prog w__1 = .ok (.string t23) w__2 ∧
          cond (decide ((t23 : ByteArray) = (⟨#[180]⟩ : ByteArray))) (
            ∃ (t28 : ByteArray) (w__3 : World),
            (convert 24 9 (.slice t12_0_a t12_0_l t12_0_c)).run Try.prog w__2 = .ok (.string t28) w__3 ∧
            R (.bool (decide ((t28 : ByteArray) = (⟨#[65, 192]⟩ : ByteArray)))) w__3
          ) (
            R (.bool false) w__2
          )
        ) (
          R (.bool false) w__1
        )
      ) (
        R (.bool false) w__1
      )

theorem S11_eq (w : World) (R : Value → World → Prop) : Eng.R Try.prog ⟨cal, S11_nx⟩ 31 S11_ann [] (Try.f11.body.getD .skip) (bodyQ Try.prog #[.tmp 0] R) (argE []) w = S11  w R := by kernel_rfl
/-- A call of 'carfax/carfaxlaw17.shown', by its condition. -/
theorem S11_calls {w : World} {R : Value → World → Prop} (hS : S11  w R) : Ret Try.prog 11 [] w R :=
  R_calls (C := ⟨cal, S11_nx⟩) cal_ok follows Try.func11 (c := Try.f11.body.getD .skip) (res := #[.tmp 0]) (n := 31) (by kernel_rfl) (by kernel_rfl) (by kernel_rfl) (by kernel_rfl) ((S11_eq  w R).mpr hS)

def S12_ann (p : List Nat) : Option LA :=
  none

def S12_nx (t : Nat) : Option (TypeId × TypeId) := none

def S12_k2 (r : Addr) (w : World) (R : Value → World → Prop) : Prop :=
  ∃ (t50 : Int),
  w.cell? (r.add 1) = some (.int .i64 t50) ∧
  cond (decide ((0 : Int) ≤ t50)) (
    ∃ (t54 : Int),
    w.cell? (r.add 1) = some (.int .i64 t54) ∧
    cond (decide ((t54 : Int) ≤ 1073741824)) (
      ∃ (t59 : Int),
      w.cell? (r.add 2) = some (.int .i64 t59) ∧
      Calls Try.prog 28 ⟨[(.int .i64 t59), (.int .i64 3)]⟩ w fun e w_ =>
        ∃ (t60 : Bool),
        e = .returned (.bool t60) ∧
        cond t60 (
          ∃ (t64 : Int),
          w_.cell? (r.add 3) = some (.int .i64 t64) ∧
          Calls Try.prog 28 ⟨[(.int .i64 t64), (.int .i64 6)]⟩ w_ fun e w__1 =>
            ∃ (t65 : Bool),
            e = .returned (.bool t65) ∧
            cond t65 (
              ∃ (t69 : Int),
              w__1.cell? (r.add 4) = some (.int .i64 t69) ∧
              Calls Try.prog 28 ⟨[(.int .i64 t69), (.int .i64 8)]⟩ w__1 fun e w__2 =>
                ∃ (t70 : Bool),
                e = .returned (.bool t70) ∧
                cond t70 (
                  ∃ (t74 : Int),
                  w__2.cell? (r.add 5) = some (.int .i64 t74) ∧
                  cond (decide ((0 : Int) ≤ t74)) (
                    ∃ (t79 : Int),
                    w__2.cell? (r.add 5) = some (.int .i64 t79) ∧
                    R (.bool (decide ((t79 : Int) ≤ 5))) w__2
                  ) (
                    R (.bool false) w__2
                  )
                ) (
                  R (.bool false) w__2
                )
            ) (
              R (.bool false) w__1
            )
        ) (
          R (.bool false) w_
        )
    ) (
      R (.bool false) w
    )
  ) (
    R (.bool false) w
  )

def S12_k1 (r : Addr) (t30 : Bool) (w : World) (R : Value → World → Prop) : Prop :=
  cond t30 (
    R (.bool false) w
  ) (
    S12_k2 r w R
  )

def S12_k0 (r : Addr) (has : Int) (t7 : Bool) (w : World) (R : Value → World → Prop) : Prop :=
  cond t7 (
    R (.bool false) w
  ) (
    cond (decide (((bitsI .and .i64 has 4) : Int) = 0)) (
      ∃ (t36 : Int),
      w.cell? (r.add 3) = some (.int .i64 t36) ∧
      cond (!decide ((t36 : Int) = 0)) (
        S12_k1 r true w R
      ) (
        ∃ (t40 : Int),
        w.cell? (r.add 4) = some (.int .i64 t40) ∧
        cond (!decide ((t40 : Int) = 0)) (
          S12_k1 r true w R
        ) (
          ∃ (t45 : Int),
          w.cell? (r.add 5) = some (.int .i64 t45) ∧
          S12_k1 r (!decide ((t45 : Int) = 0)) w R
        )
      )
    ) (
      S12_k1 r false w R
    )
  )

def S12 (r_0 : Int) (r_1 : Int) (r_2 : Int) (r_3 : Int) (r_4 : Int) (r_5 : Int) (w : World) (R : Value → World → Prop) : Prop :=
  ∃ (t5 : Int),
  (w.alloc (.cells ⟨[(.int .u8 r_0), (.int .i64 r_1), (.int .i64 r_2), (.int .i64 r_3), (.int .i64 r_4), (.int .i64 r_5)]⟩ 23)).cell? ⟨w.heap.size, 0, none⟩ = some (.int .u8 t5) ∧
  Calls Try.prog 20 ⟨[(.int .u8 t5)]⟩ (w.alloc (.cells ⟨[(.int .u8 r_0), (.int .i64 r_1), (.int .i64 r_2), (.int .i64 r_3), (.int .i64 r_4), (.int .i64 r_5)]⟩ 23)) fun e w_ =>
    ∃ (t6 : Int),
    e = .returned (.int .i64 t6) ∧
    cond (decide ((t6 : Int) = 0)) (
      S12_k0 ⟨w.heap.size, 0, none⟩ t6 true w_ R
    ) (
      cond (decide (((bitsI .and .i64 t6 1) : Int) = 0)) (
        ∃ (t16 : Int),
        w_.cell? ⟨w.heap.size, 1, none⟩ = some (.int .i64 t16) ∧
        cond (!decide ((t16 : Int) = 0)) (
          S12_k0 ⟨w.heap.size, 0, none⟩ t6 true w_ R
        ) (
          cond (decide (((bitsI .and .i64 t6 2) : Int) = 0)) (
            ∃ (t26 : Int),
            w_.cell? ⟨w.heap.size, 2, none⟩ = some (.int .i64 t26) ∧
            S12_k0 ⟨w.heap.size, 0, none⟩ t6 (!decide ((t26 : Int) = 0)) w_ R
          ) (
            S12_k0 ⟨w.heap.size, 0, none⟩ t6 false w_ R
          )
        )
      ) (
        cond (decide (((bitsI .and .i64 t6 2) : Int) = 0)) (
          ∃ (t26_1 : Int),
          w_.cell? ⟨w.heap.size, 2, none⟩ = some (.int .i64 t26_1) ∧
          S12_k0 ⟨w.heap.size, 0, none⟩ t6 (!decide ((t26_1 : Int) = 0)) w_ R
        ) (
          S12_k0 ⟨w.heap.size, 0, none⟩ t6 false w_ R
        )
      )
    )

theorem S12_eq (r_0 : Int) (r_1 : Int) (r_2 : Int) (r_3 : Int) (r_4 : Int) (r_5 : Int) (w : World) (R : Value → World → Prop) : Eng.R Try.prog ⟨cal, S12_nx⟩ 82 S12_ann [] (Try.f12.body.getD .skip) (bodyQ Try.prog #[.tmp 2] R) (argE [(.agg ⟨[(.int .u8 r_0), (.int .i64 r_1), (.int .i64 r_2), (.int .i64 r_3), (.int .i64 r_4), (.int .i64 r_5)]⟩)]) w = S12 r_0 r_1 r_2 r_3 r_4 r_5 w R := by kernel_rfl
/-- A call of 'carfax/record.Right', by its condition. -/
theorem S12_calls {r_0 : Int} {r_1 : Int} {r_2 : Int} {r_3 : Int} {r_4 : Int} {r_5 : Int} {w : World} {R : Value → World → Prop} (hS : S12 r_0 r_1 r_2 r_3 r_4 r_5 w R) : Ret Try.prog 12 [(.agg ⟨[(.int .u8 r_0), (.int .i64 r_1), (.int .i64 r_2), (.int .i64 r_3), (.int .i64 r_4), (.int .i64 r_5)]⟩)] w R :=
  R_calls (C := ⟨cal, S12_nx⟩) cal_ok follows Try.func12 (c := Try.f12.body.getD .skip) (res := #[.tmp 2]) (n := 82) (by kernel_rfl) (by kernel_rfl) (by kernel_rfl) (by kernel_rfl) ((S12_eq r_0 r_1 r_2 r_3 r_4 r_5 w R).mpr hS)

def S13_ann (p : List Nat) : Option LA :=
  none

def S13_nx (t : Nat) : Option (TypeId × TypeId) := none

def S13_k0 (r : Addr) (t80 : Bool) (w : World) (R : Value → World → Prop) : Prop :=
  cond t80 (
    ∃ (t84 : Int),
    w.cell? (r.add 1) = some (.int .i64 t84) ∧
    cond (decide ((t84 : Int) = 0)) (
      ∃ (t88 : Int),
      w.cell? (r.add 2) = some (.int .i64 t88) ∧
      Calls Try.prog 29 ⟨[(.int .i64 t88), (.int .i64 7)]⟩ w fun e w_ =>
        ∃ (t89 : Bool),
        e = .returned (.bool t89) ∧
        cond t89 (
          ∃ (t93 : Int),
          w_.cell? (r.add 3) = some (.int .i64 t93) ∧
          cond (decide ((t93 : Int) = 0)) (
            ∃ (t98 : Int),
            w_.cell? (r.add 4) = some (.int .i64 t98) ∧
            cond (decide ((t98 : Int) = 0)) (
              ∃ (t103 : Int),
              w_.cell? (r.add 5) = some (.int .i64 t103) ∧
              R (.bool (decide ((t103 : Int) = 0))) w_
            ) (
              R (.bool false) w_
            )
          ) (
            R (.bool false) w_
          )
        ) (
          R (.bool false) w_
        )
    ) (
      R (.bool false) w
    )
  ) (
    R (.bool false) w
  )

def S13 (r_0 : Int) (r_1 : Int) (r_2 : Int) (r_3 : Int) (r_4 : Int) (r_5 : Int) (w : World) (R : Value → World → Prop) : Prop :=
  ∃ (t4 : Int),
  (w.alloc (.cells ⟨[(.int .u8 r_0), (.int .i64 r_1), (.int .i64 r_2), (.int .i64 r_3), (.int .i64 r_4), (.int .i64 r_5)]⟩ 23)).cell? ⟨w.heap.size, 0, none⟩ = some (.int .u8 t4) ∧
  cond (decide ((t4 : Int) = 1)) (
    ∃ (t8 : Int),
    (w.alloc (.cells ⟨[(.int .u8 r_0), (.int .i64 r_1), (.int .i64 r_2), (.int .i64 r_3), (.int .i64 r_4), (.int .i64 r_5)]⟩ 23)).cell? ⟨w.heap.size, 1, none⟩ = some (.int .i64 t8) ∧
    cond (decide ((t8 : Int) = 0)) (
      ∃ (t12 : Int),
      (w.alloc (.cells ⟨[(.int .u8 r_0), (.int .i64 r_1), (.int .i64 r_2), (.int .i64 r_3), (.int .i64 r_4), (.int .i64 r_5)]⟩ 23)).cell? ⟨w.heap.size, 2, none⟩ = some (.int .i64 t12) ∧
      cond (decide ((t12 : Int) = 0)) (
        ∃ (t17 : Int),
        (w.alloc (.cells ⟨[(.int .u8 r_0), (.int .i64 r_1), (.int .i64 r_2), (.int .i64 r_3), (.int .i64 r_4), (.int .i64 r_5)]⟩ 23)).cell? ⟨w.heap.size, 3, none⟩ = some (.int .i64 t17) ∧
        Calls Try.prog 29 ⟨[(.int .i64 t17), (.int .i64 63)]⟩ (w.alloc (.cells ⟨[(.int .u8 r_0), (.int .i64 r_1), (.int .i64 r_2), (.int .i64 r_3), (.int .i64 r_4), (.int .i64 r_5)]⟩ 23)) fun e w_ =>
          ∃ (t18 : Bool),
          e = .returned (.bool t18) ∧
          cond t18 (
            ∃ (t22 : Int),
            w_.cell? ⟨w.heap.size, 4, none⟩ = some (.int .i64 t22) ∧
            Calls Try.prog 29 ⟨[(.int .i64 t22), (.int .i64 255)]⟩ w_ fun e w__1 =>
              ∃ (t23 : Bool),
              e = .returned (.bool t23) ∧
              cond t23 (
                ∃ (t27 : Int),
                w__1.cell? ⟨w.heap.size, 5, none⟩ = some (.int .i64 t27) ∧
                Calls Try.prog 29 ⟨[(.int .i64 t27), (.int .i64 5)]⟩ w__1 fun e w__2 =>
                  ∃ (t28 : Bool),
                  e = .returned (.bool t28) ∧
                  R (.bool t28) w__2
              ) (
                R (.bool false) w__1
              )
          ) (
            R (.bool false) w_
          )
      ) (
        R (.bool false) (w.alloc (.cells ⟨[(.int .u8 r_0), (.int .i64 r_1), (.int .i64 r_2), (.int .i64 r_3), (.int .i64 r_4), (.int .i64 r_5)]⟩ 23))
      )
    ) (
      R (.bool false) (w.alloc (.cells ⟨[(.int .u8 r_0), (.int .i64 r_1), (.int .i64 r_2), (.int .i64 r_3), (.int .i64 r_4), (.int .i64 r_5)]⟩ 23))
    )
  ) (
    cond (decide ((t4 : Int) = 2)) (
      ∃ (t33 : Int),
      (w.alloc (.cells ⟨[(.int .u8 r_0), (.int .i64 r_1), (.int .i64 r_2), (.int .i64 r_3), (.int .i64 r_4), (.int .i64 r_5)]⟩ 23)).cell? ⟨w.heap.size, 1, none⟩ = some (.int .i64 t33) ∧
      Calls Try.prog 29 ⟨[(.int .i64 t33), (.int .i64 1073741824)]⟩ (w.alloc (.cells ⟨[(.int .u8 r_0), (.int .i64 r_1), (.int .i64 r_2), (.int .i64 r_3), (.int .i64 r_4), (.int .i64 r_5)]⟩ 23)) fun e w__3 =>
        ∃ (t34 : Bool),
        e = .returned (.bool t34) ∧
        cond t34 (
          ∃ (t37 : Int),
          w__3.cell? ⟨w.heap.size, 2, none⟩ = some (.int .i64 t37) ∧
          cond (decide ((t37 : Int) = 0)) (
            ∃ (t42 : Int),
            w__3.cell? ⟨w.heap.size, 3, none⟩ = some (.int .i64 t42) ∧
            cond (decide ((t42 : Int) = 0)) (
              ∃ (t47 : Int),
              w__3.cell? ⟨w.heap.size, 4, none⟩ = some (.int .i64 t47) ∧
              cond (decide ((t47 : Int) = 0)) (
                ∃ (t52 : Int),
                w__3.cell? ⟨w.heap.size, 5, none⟩ = some (.int .i64 t52) ∧
                R (.bool (decide ((t52 : Int) = 0))) w__3
              ) (
                R (.bool false) w__3
              )
            ) (
              R (.bool false) w__3
            )
          ) (
            R (.bool false) w__3
          )
        ) (
          R (.bool false) w__3
        )
    ) (
      cond (decide ((t4 : Int) = 3)) (
        ∃ (t58 : Int),
        (w.alloc (.cells ⟨[(.int .u8 r_0), (.int .i64 r_1), (.int .i64 r_2), (.int .i64 r_3), (.int .i64 r_4), (.int .i64 r_5)]⟩ 23)).cell? ⟨w.heap.size, 1, none⟩ = some (.int .i64 t58) ∧
        Calls Try.prog 29 ⟨[(.int .i64 t58), (.int .i64 1073741824)]⟩ (w.alloc (.cells ⟨[(.int .u8 r_0), (.int .i64 r_1), (.int .i64 r_2), (.int .i64 r_3), (.int .i64 r_4), (.int .i64 r_5)]⟩ 23)) fun e w__4 =>
          ∃ (t59 : Bool),
          e = .returned (.bool t59) ∧
          cond t59 (
            ∃ (t62 : Int),
            w__4.cell? ⟨w.heap.size, 2, none⟩ = some (.int .i64 t62) ∧
            Calls Try.prog 29 ⟨[(.int .i64 t62), (.int .i64 7)]⟩ w__4 fun e w__5 =>
              ∃ (t63 : Bool),
              e = .returned (.bool t63) ∧
              cond t63 (
                ∃ (t67 : Int),
                w__5.cell? ⟨w.heap.size, 3, none⟩ = some (.int .i64 t67) ∧
                cond (decide ((t67 : Int) = 0)) (
                  ∃ (t72 : Int),
                  w__5.cell? ⟨w.heap.size, 4, none⟩ = some (.int .i64 t72) ∧
                  cond (decide ((t72 : Int) = 0)) (
                    ∃ (t77 : Int),
                    w__5.cell? ⟨w.heap.size, 5, none⟩ = some (.int .i64 t77) ∧
                    R (.bool (decide ((t77 : Int) = 0))) w__5
                  ) (
                    R (.bool false) w__5
                  )
                ) (
                  R (.bool false) w__5
                )
              ) (
                R (.bool false) w__5
              )
          ) (
            R (.bool false) w__4
          )
      ) (
        cond (decide ((t4 : Int) = 4)) (
          S13_k0 ⟨w.heap.size, 0, none⟩ (decide ((t4 : Int) = 4)) (w.alloc (.cells ⟨[(.int .u8 r_0), (.int .i64 r_1), (.int .i64 r_2), (.int .i64 r_3), (.int .i64 r_4), (.int .i64 r_5)]⟩ 23)) R
        ) (
          S13_k0 ⟨w.heap.size, 0, none⟩ (decide ((t4 : Int) = 5)) (w.alloc (.cells ⟨[(.int .u8 r_0), (.int .i64 r_1), (.int .i64 r_2), (.int .i64 r_3), (.int .i64 r_4), (.int .i64 r_5)]⟩ 23)) R
        )
      )
    )
  )

theorem S13_eq (r_0 : Int) (r_1 : Int) (r_2 : Int) (r_3 : Int) (r_4 : Int) (r_5 : Int) (w : World) (R : Value → World → Prop) : Eng.R Try.prog ⟨cal, S13_nx⟩ 106 S13_ann [] (Try.f13.body.getD .skip) (bodyQ Try.prog #[.tmp 2] R) (argE [(.agg ⟨[(.int .u8 r_0), (.int .i64 r_1), (.int .i64 r_2), (.int .i64 r_3), (.int .i64 r_4), (.int .i64 r_5)]⟩)]) w = S13 r_0 r_1 r_2 r_3 r_4 r_5 w R := by kernel_rfl
/-- A call of 'carfax/carfaxref17.Right', by its condition. -/
theorem S13_calls {r_0 : Int} {r_1 : Int} {r_2 : Int} {r_3 : Int} {r_4 : Int} {r_5 : Int} {w : World} {R : Value → World → Prop} (hS : S13 r_0 r_1 r_2 r_3 r_4 r_5 w R) : Ret Try.prog 13 [(.agg ⟨[(.int .u8 r_0), (.int .i64 r_1), (.int .i64 r_2), (.int .i64 r_3), (.int .i64 r_4), (.int .i64 r_5)]⟩)] w R :=
  R_calls (C := ⟨cal, S13_nx⟩) cal_ok follows Try.func13 (c := Try.f13.body.getD .skip) (res := #[.tmp 2]) (n := 106) (by kernel_rfl) (by kernel_rfl) (by kernel_rfl) (by kernel_rfl) ((S13_eq r_0 r_1 r_2 r_3 r_4 r_5 w R).mpr hS)

def S14_ann (p : List Nat) : Option LA :=
  none

def S14_nx (t : Nat) : Option (TypeId × TypeId) := none

def S14_k0 (x : Addr) (w : World) (R : Value → World → Prop) : Prop :=
  Calls Try.prog 21 ⟨[]⟩ w fun e w_ =>
    ∃ (t8 : Option Addr),
    e = .returned (.pointer t8) ∧
    (∃ u, (w_.alloc (.cells ⟨[(.pointer none)]⟩ 45)).cell? ⟨w_.heap.size, 0, none⟩ = some u) ∧
    (w_.alloc (.cells ⟨[(.pointer none)]⟩ 45)).frozen? ⟨w_.heap.size, 0, none⟩ = false ∧
    ∃ (t10_0 : Option Addr),
    ((w_.alloc (.cells ⟨[(.pointer none)]⟩ 45)).setCell ⟨w_.heap.size, 0, none⟩ (.pointer t8)).cell? ⟨w_.heap.size, 0, none⟩ = some (.pointer t10_0) ∧
    ∃ (t12 : Int),
    ((w_.alloc (.cells ⟨[(.pointer none)]⟩ 45)).setCell ⟨w_.heap.size, 0, none⟩ (.pointer t8)).cell? x = some (.int .u8 t12) ∧
    Calls Try.prog 22 ⟨[(.agg ⟨[(.pointer t10_0)]⟩), (.int .i64 (IntKind.i64.wrap t12)), (.int .i64 2)]⟩ ((w_.alloc (.cells ⟨[(.pointer none)]⟩ 45)).setCell ⟨w_.heap.size, 0, none⟩ (.pointer t8)) fun e w__1 =>
      e = .returned (.tuple ⟨[]⟩) ∧
      ∃ (t15_0 : Option Addr),
      w__1.cell? ⟨w_.heap.size, 0, none⟩ = some (.pointer t15_0) ∧
      ∃ (t17 : Int),
      w__1.cell? (x.add 1) = some (.int .i64 t17) ∧
      Calls Try.prog 22 ⟨[(.agg ⟨[(.pointer t15_0)]⟩), (.int .i64 t17), (.int .i64 8)]⟩ w__1 fun e w__2 =>
        e = .returned (.tuple ⟨[]⟩) ∧
        ∃ (t19_0 : Option Addr),
        w__2.cell? ⟨w_.heap.size, 0, none⟩ = some (.pointer t19_0) ∧
        ∃ (t21 : Int),
        w__2.cell? (x.add 2) = some (.int .i64 t21) ∧
        Calls Try.prog 22 ⟨[(.agg ⟨[(.pointer t19_0)]⟩), (.int .i64 t21), (.int .i64 6)]⟩ w__2 fun e w__3 =>
          e = .returned (.tuple ⟨[]⟩) ∧
          ∃ (t24 : Option Addr),
          w__3.cell? ⟨w_.heap.size, 0, none⟩ = some (.pointer t24) ∧
          Calls Try.prog 24 ⟨[(.pointer t24)]⟩ w__3 fun e w__4 =>
            ∃ (t25_a : Option Addr) (t25_l : Nat) (t25_c : Nat),
            e = .returned (.slice t25_a t25_l t25_c) ∧
            R (.tuple ⟨[(.slice t25_a t25_l t25_c), (.int .i64 0)]⟩) w__4

def S14 (x_0 : Int) (x_1 : Int) (x_2 : Int) (w : World) (R : Value → World → Prop) : Prop :=
  ∃ (t5_0 : Int),
  (w.alloc (.cells ⟨[(.int .u8 x_0), (.int .i64 x_1), (.int .i64 x_2)]⟩ 31)).cell? ⟨w.heap.size, 0, none⟩ = some (.int .u8 t5_0) ∧
  ∃ (t5_1 : Int),
  (w.alloc (.cells ⟨[(.int .u8 x_0), (.int .i64 x_1), (.int .i64 x_2)]⟩ 31)).cell? ⟨w.heap.size, 1, none⟩ = some (.int .i64 t5_1) ∧
  ∃ (t5_2 : Int),
  (w.alloc (.cells ⟨[(.int .u8 x_0), (.int .i64 x_1), (.int .i64 x_2)]⟩ 31)).cell? ⟨w.heap.size, 2, none⟩ = some (.int .i64 t5_2) ∧
  Calls Try.prog 30 ⟨[(.agg ⟨[(.int .u8 t5_0), (.int .i64 t5_1), (.int .i64 t5_2)]⟩)]⟩ (w.alloc (.cells ⟨[(.int .u8 x_0), (.int .i64 x_1), (.int .i64 x_2)]⟩ 31)) fun e w_ =>
    ∃ (t6 : Bool),
    e = .returned (.bool t6) ∧
    cond (!t6) (
      R (.tuple ⟨[(.slice none 0 0), (.int .i64 1)]⟩) w_
    ) (
      S14_k0 ⟨w.heap.size, 0, none⟩ w_ R
    )

theorem S14_eq (x_0 : Int) (x_1 : Int) (x_2 : Int) (w : World) (R : Value → World → Prop) : Eng.R Try.prog ⟨cal, S14_nx⟩ 26 S14_ann [] (Try.f14.body.getD .skip) (bodyQ Try.prog #[.tmp 2, .tmp 3] R) (argE [(.agg ⟨[(.int .u8 x_0), (.int .i64 x_1), (.int .i64 x_2)]⟩)]) w = S14 x_0 x_1 x_2 w R := by kernel_rfl
/-- A call of 'carfax/record.LayAct', by its condition. -/
theorem S14_calls {x_0 : Int} {x_1 : Int} {x_2 : Int} {w : World} {R : Value → World → Prop} (hS : S14 x_0 x_1 x_2 w R) : Ret Try.prog 14 [(.agg ⟨[(.int .u8 x_0), (.int .i64 x_1), (.int .i64 x_2)]⟩)] w R :=
  R_calls (C := ⟨cal, S14_nx⟩) cal_ok follows Try.func14 (c := Try.f14.body.getD .skip) (res := #[.tmp 2, .tmp 3]) (n := 26) (by kernel_rfl) (by kernel_rfl) (by kernel_rfl) (by kernel_rfl) ((S14_eq x_0 x_1 x_2 w R).mpr hS)

def S15_ann (p : List Nat) : Option LA :=
  none

def S15_nx (t : Nat) : Option (TypeId × TypeId) := none

def S15_k1 (x : Addr) (w : World) (R : Value → World → Prop) : Prop :=
  ∃ (t36 : Int),
  w.cell? x = some (.int .u8 t36) ∧
  Calls Try.prog 25 ⟨[(.int .u64 (IntKind.u64.wrap t36)), (.int .i64 2)]⟩ w fun e w_ =>
    ∃ (t38_a : Option Addr) (t38_l : Nat) (t38_c : Nat),
    e = .returned (.slice t38_a t38_l t38_c) ∧
    ∃ (t41 : Int),
    w_.cell? (x.add 1) = some (.int .i64 t41) ∧
    Calls Try.prog 25 ⟨[(.int .u64 (IntKind.u64.wrap t41)), (.int .i64 8)]⟩ w_ fun e w__1 =>
      ∃ (t43_a : Option Addr) (t43_l : Nat) (t43_c : Nat),
      e = .returned (.slice t43_a t43_l t43_c) ∧
      ∃ (t44_a : Option Addr) (t44_l : Nat) (t44_c : Nat) (w__2 : World),
      (Builtin.append_ #[50, 50] 50 ⟨[(.slice t38_a t38_l t38_c), (.slice t43_a t43_l t43_c)]⟩).run Try.prog w__1 = .ok (.slice t44_a t44_l t44_c) w__2 ∧
      ∃ (t47 : Int),
      w__2.cell? (x.add 2) = some (.int .i64 t47) ∧
      Calls Try.prog 25 ⟨[(.int .u64 (IntKind.u64.wrap t47)), (.int .i64 6)]⟩ w__2 fun e w__3 =>
        ∃ (t49_a : Option Addr) (t49_l : Nat) (t49_c : Nat),
        e = .returned (.slice t49_a t49_l t49_c) ∧
        ∃ (t50_a : Option Addr) (t50_l : Nat) (t50_c : Nat) (w__4 : World),
        (Builtin.append_ #[50, 50] 50 ⟨[(.slice t44_a t44_l t44_c), (.slice t49_a t49_l t49_c)]⟩).run Try.prog w__3 = .ok (.slice t50_a t50_l t50_c) w__4 ∧
        Calls Try.prog 27 ⟨[(.slice t50_a t50_l t50_c)]⟩ w__4 fun e w__5 =>
          ∃ (t52_a : Option Addr) (t52_l : Nat) (t52_c : Nat),
          e = .returned (.slice t52_a t52_l t52_c) ∧
          R (.tuple ⟨[(.slice t52_a t52_l t52_c), (.int .i64 0)]⟩) w__5

def S15_k0 (x : Addr) (t34 : Bool) (w : World) (R : Value → World → Prop) : Prop :=
  cond t34 (
    R (.tuple ⟨[(.slice none 0 0), (.int .i64 1)]⟩) w
  ) (
    S15_k1 x w R
  )

def S15 (x_0 : Int) (x_1 : Int) (x_2 : Int) (w : World) (R : Value → World → Prop) : Prop :=
  ∃ (t6 : Int),
  (w.alloc (.cells ⟨[(.int .u8 x_0), (.int .i64 x_1), (.int .i64 x_2)]⟩ 31)).cell? ⟨w.heap.size, 0, none⟩ = some (.int .u8 t6) ∧
  cond (decide ((t6 : Int) < 1)) (
    S15_k0 ⟨w.heap.size, 0, none⟩ true (w.alloc (.cells ⟨[(.int .u8 x_0), (.int .i64 x_1), (.int .i64 x_2)]⟩ 31)) R
  ) (
    ∃ (t10 : Int),
    (w.alloc (.cells ⟨[(.int .u8 x_0), (.int .i64 x_1), (.int .i64 x_2)]⟩ 31)).cell? ⟨w.heap.size, 0, none⟩ = some (.int .u8 t10) ∧
    cond (decide ((3 : Int) < t10)) (
      S15_k0 ⟨w.heap.size, 0, none⟩ true (w.alloc (.cells ⟨[(.int .u8 x_0), (.int .i64 x_1), (.int .i64 x_2)]⟩ 31)) R
    ) (
      ∃ (t15 : Int),
      (w.alloc (.cells ⟨[(.int .u8 x_0), (.int .i64 x_1), (.int .i64 x_2)]⟩ 31)).cell? ⟨w.heap.size, 1, none⟩ = some (.int .i64 t15) ∧
      Calls Try.prog 29 ⟨[(.int .i64 t15), (.int .i64 255)]⟩ (w.alloc (.cells ⟨[(.int .u8 x_0), (.int .i64 x_1), (.int .i64 x_2)]⟩ 31)) fun e w_ =>
        ∃ (t16 : Bool),
        e = .returned (.bool t16) ∧
        cond (!t16) (
          S15_k0 ⟨w.heap.size, 0, none⟩ true w_ R
        ) (
          ∃ (t21 : Int),
          w_.cell? ⟨w.heap.size, 2, none⟩ = some (.int .i64 t21) ∧
          Calls Try.prog 29 ⟨[(.int .i64 t21), (.int .i64 63)]⟩ w_ fun e w__1 =>
            ∃ (t22 : Bool),
            e = .returned (.bool t22) ∧
            cond (!t22) (
              S15_k0 ⟨w.heap.size, 0, none⟩ true w__1 R
            ) (
              ∃ (t27 : Int),
              w__1.cell? ⟨w.heap.size, 0, none⟩ = some (.int .u8 t27) ∧
              cond (decide ((t27 : Int) = 1)) (
                ∃ (t31 : Int),
                w__1.cell? ⟨w.heap.size, 2, none⟩ = some (.int .i64 t31) ∧
                S15_k0 ⟨w.heap.size, 0, none⟩ (!decide ((t31 : Int) = 0)) w__1 R
              ) (
                S15_k0 ⟨w.heap.size, 0, none⟩ false w__1 R
              )
            )
        )
    )
  )

theorem S15_eq (x_0 : Int) (x_1 : Int) (x_2 : Int) (w : World) (R : Value → World → Prop) : Eng.R Try.prog ⟨cal, S15_nx⟩ 53 S15_ann [] (Try.f15.body.getD .skip) (bodyQ Try.prog #[.tmp 2, .tmp 3] R) (argE [(.agg ⟨[(.int .u8 x_0), (.int .i64 x_1), (.int .i64 x_2)]⟩)]) w = S15 x_0 x_1 x_2 w R := by kernel_rfl
/-- A call of 'carfax/carfaxref17.LayAct', by its condition. -/
theorem S15_calls {x_0 : Int} {x_1 : Int} {x_2 : Int} {w : World} {R : Value → World → Prop} (hS : S15 x_0 x_1 x_2 w R) : Ret Try.prog 15 [(.agg ⟨[(.int .u8 x_0), (.int .i64 x_1), (.int .i64 x_2)]⟩)] w R :=
  R_calls (C := ⟨cal, S15_nx⟩) cal_ok follows Try.func15 (c := Try.f15.body.getD .skip) (res := #[.tmp 2, .tmp 3]) (n := 53) (by kernel_rfl) (by kernel_rfl) (by kernel_rfl) (by kernel_rfl) ((S15_eq x_0 x_1 x_2 w R).mpr hS)

def S16_ann (p : List Nat) : Option LA :=
  none

def S16_nx (t : Nat) : Option (TypeId × TypeId) := none

def S16_k0 (t2 : Addr) (x : Addr) (t32 : Bool) (w : World) (R : Value → World → Prop) : Prop :=
  cond t32 (
    (∃ u, w.cell? t2 = some u) ∧
    w.frozen? t2 = false ∧
    (∃ u, (w.setCell t2 (.int .u8 0)).cell? (t2.add 1) = some u) ∧
    (w.setCell t2 (.int .u8 0)).frozen? (t2.add 1) = false ∧
    (∃ u, ((w.setCell t2 (.int .u8 0)).setCell (t2.add 1) (.int .i64 0)).cell? (t2.add 2) = some u) ∧
    ((w.setCell t2 (.int .u8 0)).setCell (t2.add 1) (.int .i64 0)).frozen? (t2.add 2) = false ∧
    ∃ (t2_0 : Int),
    (((w.setCell t2 (.int .u8 0)).setCell (t2.add 1) (.int .i64 0)).setCell (t2.add 2) (.int .i64 0)).cell? t2 = some (.int .u8 t2_0) ∧
    ∃ (t2_1 : Int),
    (((w.setCell t2 (.int .u8 0)).setCell (t2.add 1) (.int .i64 0)).setCell (t2.add 2) (.int .i64 0)).cell? (t2.add 1) = some (.int .i64 t2_1) ∧
    ∃ (t2_2 : Int),
    (((w.setCell t2 (.int .u8 0)).setCell (t2.add 1) (.int .i64 0)).setCell (t2.add 2) (.int .i64 0)).cell? (t2.add 2) = some (.int .i64 t2_2) ∧
    R (.tuple ⟨[(.agg ⟨[(.int .u8 t2_0), (.int .i64 t2_1), (.int .i64 t2_2)]⟩), (.int .i64 170)]⟩) (((w.setCell t2 (.int .u8 0)).setCell (t2.add 1) (.int .i64 0)).setCell (t2.add 2) (.int .i64 0))
  ) (
    ∃ (t34_0 : Int),
    w.cell? x = some (.int .u8 t34_0) ∧
    ∃ (t34_1 : Int),
    w.cell? (x.add 1) = some (.int .i64 t34_1) ∧
    ∃ (t34_2 : Int),
    w.cell? (x.add 2) = some (.int .i64 t34_2) ∧
    (∃ u, w.cell? t2 = some u) ∧
    w.frozen? t2 = false ∧
    (∃ u, (w.setCell t2 (.int .u8 t34_0)).cell? (t2.add 1) = some u) ∧
    (w.setCell t2 (.int .u8 t34_0)).frozen? (t2.add 1) = false ∧
    (∃ u, ((w.setCell t2 (.int .u8 t34_0)).setCell (t2.add 1) (.int .i64 t34_1)).cell? (t2.add 2) = some u) ∧
    ((w.setCell t2 (.int .u8 t34_0)).setCell (t2.add 1) (.int .i64 t34_1)).frozen? (t2.add 2) = false ∧
    ∃ (t2_0_1 : Int),
    (((w.setCell t2 (.int .u8 t34_0)).setCell (t2.add 1) (.int .i64 t34_1)).setCell (t2.add 2) (.int .i64 t34_2)).cell? t2 = some (.int .u8 t2_0_1) ∧
    ∃ (t2_1_1 : Int),
    (((w.setCell t2 (.int .u8 t34_0)).setCell (t2.add 1) (.int .i64 t34_1)).setCell (t2.add 2) (.int .i64 t34_2)).cell? (t2.add 1) = some (.int .i64 t2_1_1) ∧
    ∃ (t2_2_1 : Int),
    (((w.setCell t2 (.int .u8 t34_0)).setCell (t2.add 1) (.int .i64 t34_1)).setCell (t2.add 2) (.int .i64 t34_2)).cell? (t2.add 2) = some (.int .i64 t2_2_1) ∧
    R (.tuple ⟨[(.agg ⟨[(.int .u8 t2_0_1), (.int .i64 t2_1_1), (.int .i64 t2_2_1)]⟩), (.int .i64 0)]⟩) (((w.setCell t2 (.int .u8 t34_0)).setCell (t2.add 1) (.int .i64 t34_1)).setCell (t2.add 2) (.int .i64 t34_2))
  )

def S16 (b_a : Option Addr) (b_l : Nat) (b_c : Nat) (w : World) (R : Value → World → Prop) : Prop :=
  Calls Try.prog 31 ⟨[(.slice b_a b_l b_c)]⟩ (w.alloc (.cells ⟨[(.int .u8 0), (.int .i64 0), (.int .i64 0)]⟩ 31)) fun e w_ =>
    ∃ (t7 : Option Addr),
    e = .returned (.pointer t7) ∧
    Calls Try.prog 32 ⟨[(.pointer t7), (.int .i64 2)]⟩ w_ fun e w__1 =>
      ∃ (t9 : Int),
      e = .returned (.int .u64 t9) ∧
      (∃ u, (w__1.alloc (.cells ⟨[(.int .u8 0), (.int .i64 0), (.int .i64 0)]⟩ 31)).cell? ⟨w__1.heap.size, 0, none⟩ = some u) ∧
      (w__1.alloc (.cells ⟨[(.int .u8 0), (.int .i64 0), (.int .i64 0)]⟩ 31)).frozen? ⟨w__1.heap.size, 0, none⟩ = false ∧
      (∃ u, ((w__1.alloc (.cells ⟨[(.int .u8 0), (.int .i64 0), (.int .i64 0)]⟩ 31)).setCell ⟨w__1.heap.size, 0, none⟩ (.int .u8 (IntKind.u8.wrap t9))).cell? ⟨w__1.heap.size, 1, none⟩ = some u) ∧
      ((w__1.alloc (.cells ⟨[(.int .u8 0), (.int .i64 0), (.int .i64 0)]⟩ 31)).setCell ⟨w__1.heap.size, 0, none⟩ (.int .u8 (IntKind.u8.wrap t9))).frozen? ⟨w__1.heap.size, 1, none⟩ = false ∧
      (∃ u, (((w__1.alloc (.cells ⟨[(.int .u8 0), (.int .i64 0), (.int .i64 0)]⟩ 31)).setCell ⟨w__1.heap.size, 0, none⟩ (.int .u8 (IntKind.u8.wrap t9))).setCell ⟨w__1.heap.size, 1, none⟩ (.int .i64 0)).cell? ⟨w__1.heap.size, 2, none⟩ = some u) ∧
      (((w__1.alloc (.cells ⟨[(.int .u8 0), (.int .i64 0), (.int .i64 0)]⟩ 31)).setCell ⟨w__1.heap.size, 0, none⟩ (.int .u8 (IntKind.u8.wrap t9))).setCell ⟨w__1.heap.size, 1, none⟩ (.int .i64 0)).frozen? ⟨w__1.heap.size, 2, none⟩ = false ∧
      Calls Try.prog 32 ⟨[(.pointer t7), (.int .i64 8)]⟩ ((((w__1.alloc (.cells ⟨[(.int .u8 0), (.int .i64 0), (.int .i64 0)]⟩ 31)).setCell ⟨w__1.heap.size, 0, none⟩ (.int .u8 (IntKind.u8.wrap t9))).setCell ⟨w__1.heap.size, 1, none⟩ (.int .i64 0)).setCell ⟨w__1.heap.size, 2, none⟩ (.int .i64 0)) fun e w__2 =>
        ∃ (t13 : Int),
        e = .returned (.int .u64 t13) ∧
        (∃ u, w__2.cell? ⟨w__1.heap.size, 1, none⟩ = some u) ∧
        w__2.frozen? ⟨w__1.heap.size, 1, none⟩ = false ∧
        Calls Try.prog 32 ⟨[(.pointer t7), (.int .i64 6)]⟩ (w__2.setCell ⟨w__1.heap.size, 1, none⟩ (.int .i64 (IntKind.i64.wrap t13))) fun e w__3 =>
          ∃ (t17 : Int),
          e = .returned (.int .u64 t17) ∧
          (∃ u, w__3.cell? ⟨w__1.heap.size, 2, none⟩ = some u) ∧
          w__3.frozen? ⟨w__1.heap.size, 2, none⟩ = false ∧
          Calls Try.prog 33 ⟨[(.pointer t7)]⟩ (w__3.setCell ⟨w__1.heap.size, 2, none⟩ (.int .i64 (IntKind.i64.wrap t17))) fun e w__4 =>
            ∃ (t21 : Int),
            e = .returned (.int .i64 t21) ∧
            cond (!decide ((t21 : Int) = 0)) (
              S16_k0 ⟨w.heap.size, 0, none⟩ ⟨w__1.heap.size, 0, none⟩ true w__4 R
            ) (
              Calls Try.prog 34 ⟨[(.pointer t7)]⟩ w__4 fun e w__5 =>
                ∃ (t25 : Int),
                e = .returned (.int .i64 t25) ∧
                cond (decide ((0 : Int) < t25)) (
                  S16_k0 ⟨w.heap.size, 0, none⟩ ⟨w__1.heap.size, 0, none⟩ true w__5 R
                ) (
                  ∃ (t29_0 : Int),
                  w__5.cell? ⟨w__1.heap.size, 0, none⟩ = some (.int .u8 t29_0) ∧
                  ∃ (t29_1 : Int),
                  w__5.cell? ⟨w__1.heap.size, 1, none⟩ = some (.int .i64 t29_1) ∧
                  ∃ (t29_2 : Int),
                  w__5.cell? ⟨w__1.heap.size, 2, none⟩ = some (.int .i64 t29_2) ∧
                  Calls Try.prog 30 ⟨[(.agg ⟨[(.int .u8 t29_0), (.int .i64 t29_1), (.int .i64 t29_2)]⟩)]⟩ w__5 fun e w__6 =>
                    ∃ (t30 : Bool),
                    e = .returned (.bool t30) ∧
                    S16_k0 ⟨w.heap.size, 0, none⟩ ⟨w__1.heap.size, 0, none⟩ (!t30) w__6 R
                )
            )

theorem S16_eq (b_a : Option Addr) (b_l : Nat) (b_c : Nat) (w : World) (R : Value → World → Prop) : Eng.R Try.prog ⟨cal, S16_nx⟩ 35 S16_ann [] (Try.f16.body.getD .skip) (bodyQ Try.prog #[.cell 2 31, .tmp 3] R) (argE [(.slice b_a b_l b_c)]) w = S16 b_a b_l b_c w R := by kernel_rfl
/-- A call of 'carfax/record.TakeAct', by its condition. -/
theorem S16_calls {b_a : Option Addr} {b_l : Nat} {b_c : Nat} {w : World} {R : Value → World → Prop} (hS : S16 b_a b_l b_c w R) : Ret Try.prog 16 [(.slice b_a b_l b_c)] w R :=
  R_calls (C := ⟨cal, S16_nx⟩) cal_ok follows Try.func16 (c := Try.f16.body.getD .skip) (res := #[.cell 2 31, .tmp 3]) (n := 35) (by kernel_rfl) (by kernel_rfl) (by kernel_rfl) (by kernel_rfl) ((S16_eq b_a b_l b_c w R).mpr hS)

def S17_ann (p : List Nat) : Option LA :=
  none

def S17_nx (t : Nat) : Option (TypeId × TypeId) := none

def S17_k3 (t2 : Addr) (x : Addr) (t51 : Bool) (w : World) (R : Value → World → Prop) : Prop :=
  cond t51 (
    (∃ u, w.cell? t2 = some u) ∧
    w.frozen? t2 = false ∧
    (∃ u, (w.setCell t2 (.int .u8 0)).cell? (t2.add 1) = some u) ∧
    (w.setCell t2 (.int .u8 0)).frozen? (t2.add 1) = false ∧
    (∃ u, ((w.setCell t2 (.int .u8 0)).setCell (t2.add 1) (.int .i64 0)).cell? (t2.add 2) = some u) ∧
    ((w.setCell t2 (.int .u8 0)).setCell (t2.add 1) (.int .i64 0)).frozen? (t2.add 2) = false ∧
    (∃ u, (((w.setCell t2 (.int .u8 0)).setCell (t2.add 1) (.int .i64 0)).setCell (t2.add 2) (.int .i64 0)).cell? (t2.add 3) = some u) ∧
    (((w.setCell t2 (.int .u8 0)).setCell (t2.add 1) (.int .i64 0)).setCell (t2.add 2) (.int .i64 0)).frozen? (t2.add 3) = false ∧
    (∃ u, ((((w.setCell t2 (.int .u8 0)).setCell (t2.add 1) (.int .i64 0)).setCell (t2.add 2) (.int .i64 0)).setCell (t2.add 3) (.int .i64 0)).cell? (t2.add 4) = some u) ∧
    ((((w.setCell t2 (.int .u8 0)).setCell (t2.add 1) (.int .i64 0)).setCell (t2.add 2) (.int .i64 0)).setCell (t2.add 3) (.int .i64 0)).frozen? (t2.add 4) = false ∧
    (∃ u, (((((w.setCell t2 (.int .u8 0)).setCell (t2.add 1) (.int .i64 0)).setCell (t2.add 2) (.int .i64 0)).setCell (t2.add 3) (.int .i64 0)).setCell (t2.add 4) (.int .i64 0)).cell? (t2.add 5) = some u) ∧
    (((((w.setCell t2 (.int .u8 0)).setCell (t2.add 1) (.int .i64 0)).setCell (t2.add 2) (.int .i64 0)).setCell (t2.add 3) (.int .i64 0)).setCell (t2.add 4) (.int .i64 0)).frozen? (t2.add 5) = false ∧
    ∃ (t2_0 : Int),
    ((((((w.setCell t2 (.int .u8 0)).setCell (t2.add 1) (.int .i64 0)).setCell (t2.add 2) (.int .i64 0)).setCell (t2.add 3) (.int .i64 0)).setCell (t2.add 4) (.int .i64 0)).setCell (t2.add 5) (.int .i64 0)).cell? t2 = some (.int .u8 t2_0) ∧
    ∃ (t2_1 : Int),
    ((((((w.setCell t2 (.int .u8 0)).setCell (t2.add 1) (.int .i64 0)).setCell (t2.add 2) (.int .i64 0)).setCell (t2.add 3) (.int .i64 0)).setCell (t2.add 4) (.int .i64 0)).setCell (t2.add 5) (.int .i64 0)).cell? (t2.add 1) = some (.int .i64 t2_1) ∧
    ∃ (t2_2 : Int),
    ((((((w.setCell t2 (.int .u8 0)).setCell (t2.add 1) (.int .i64 0)).setCell (t2.add 2) (.int .i64 0)).setCell (t2.add 3) (.int .i64 0)).setCell (t2.add 4) (.int .i64 0)).setCell (t2.add 5) (.int .i64 0)).cell? (t2.add 2) = some (.int .i64 t2_2) ∧
    ∃ (t2_3 : Int),
    ((((((w.setCell t2 (.int .u8 0)).setCell (t2.add 1) (.int .i64 0)).setCell (t2.add 2) (.int .i64 0)).setCell (t2.add 3) (.int .i64 0)).setCell (t2.add 4) (.int .i64 0)).setCell (t2.add 5) (.int .i64 0)).cell? (t2.add 3) = some (.int .i64 t2_3) ∧
    ∃ (t2_4 : Int),
    ((((((w.setCell t2 (.int .u8 0)).setCell (t2.add 1) (.int .i64 0)).setCell (t2.add 2) (.int .i64 0)).setCell (t2.add 3) (.int .i64 0)).setCell (t2.add 4) (.int .i64 0)).setCell (t2.add 5) (.int .i64 0)).cell? (t2.add 4) = some (.int .i64 t2_4) ∧
    ∃ (t2_5 : Int),
    ((((((w.setCell t2 (.int .u8 0)).setCell (t2.add 1) (.int .i64 0)).setCell (t2.add 2) (.int .i64 0)).setCell (t2.add 3) (.int .i64 0)).setCell (t2.add 4) (.int .i64 0)).setCell (t2.add 5) (.int .i64 0)).cell? (t2.add 5) = some (.int .i64 t2_5) ∧
    R (.tuple ⟨[(.agg ⟨[(.int .u8 t2_0), (.int .i64 t2_1), (.int .i64 t2_2), (.int .i64 t2_3), (.int .i64 t2_4), (.int .i64 t2_5)]⟩), (.int .i64 170)]⟩) ((((((w.setCell t2 (.int .u8 0)).setCell (t2.add 1) (.int .i64 0)).setCell (t2.add 2) (.int .i64 0)).setCell (t2.add 3) (.int .i64 0)).setCell (t2.add 4) (.int .i64 0)).setCell (t2.add 5) (.int .i64 0))
  ) (
    ∃ (t53_0 : Int),
    w.cell? x = some (.int .u8 t53_0) ∧
    ∃ (t53_1 : Int),
    w.cell? (x.add 1) = some (.int .i64 t53_1) ∧
    ∃ (t53_2 : Int),
    w.cell? (x.add 2) = some (.int .i64 t53_2) ∧
    ∃ (t53_3 : Int),
    w.cell? (x.add 3) = some (.int .i64 t53_3) ∧
    ∃ (t53_4 : Int),
    w.cell? (x.add 4) = some (.int .i64 t53_4) ∧
    ∃ (t53_5 : Int),
    w.cell? (x.add 5) = some (.int .i64 t53_5) ∧
    (∃ u, w.cell? t2 = some u) ∧
    w.frozen? t2 = false ∧
    (∃ u, (w.setCell t2 (.int .u8 t53_0)).cell? (t2.add 1) = some u) ∧
    (w.setCell t2 (.int .u8 t53_0)).frozen? (t2.add 1) = false ∧
    (∃ u, ((w.setCell t2 (.int .u8 t53_0)).setCell (t2.add 1) (.int .i64 t53_1)).cell? (t2.add 2) = some u) ∧
    ((w.setCell t2 (.int .u8 t53_0)).setCell (t2.add 1) (.int .i64 t53_1)).frozen? (t2.add 2) = false ∧
    (∃ u, (((w.setCell t2 (.int .u8 t53_0)).setCell (t2.add 1) (.int .i64 t53_1)).setCell (t2.add 2) (.int .i64 t53_2)).cell? (t2.add 3) = some u) ∧
    (((w.setCell t2 (.int .u8 t53_0)).setCell (t2.add 1) (.int .i64 t53_1)).setCell (t2.add 2) (.int .i64 t53_2)).frozen? (t2.add 3) = false ∧
    (∃ u, ((((w.setCell t2 (.int .u8 t53_0)).setCell (t2.add 1) (.int .i64 t53_1)).setCell (t2.add 2) (.int .i64 t53_2)).setCell (t2.add 3) (.int .i64 t53_3)).cell? (t2.add 4) = some u) ∧
    ((((w.setCell t2 (.int .u8 t53_0)).setCell (t2.add 1) (.int .i64 t53_1)).setCell (t2.add 2) (.int .i64 t53_2)).setCell (t2.add 3) (.int .i64 t53_3)).frozen? (t2.add 4) = false ∧
    (∃ u, (((((w.setCell t2 (.int .u8 t53_0)).setCell (t2.add 1) (.int .i64 t53_1)).setCell (t2.add 2) (.int .i64 t53_2)).setCell (t2.add 3) (.int .i64 t53_3)).setCell (t2.add 4) (.int .i64 t53_4)).cell? (t2.add 5) = some u) ∧
    (((((w.setCell t2 (.int .u8 t53_0)).setCell (t2.add 1) (.int .i64 t53_1)).setCell (t2.add 2) (.int .i64 t53_2)).setCell (t2.add 3) (.int .i64 t53_3)).setCell (t2.add 4) (.int .i64 t53_4)).frozen? (t2.add 5) = false ∧
    ∃ (t2_0_1 : Int),
    ((((((w.setCell t2 (.int .u8 t53_0)).setCell (t2.add 1) (.int .i64 t53_1)).setCell (t2.add 2) (.int .i64 t53_2)).setCell (t2.add 3) (.int .i64 t53_3)).setCell (t2.add 4) (.int .i64 t53_4)).setCell (t2.add 5) (.int .i64 t53_5)).cell? t2 = some (.int .u8 t2_0_1) ∧
    ∃ (t2_1_1 : Int),
    ((((((w.setCell t2 (.int .u8 t53_0)).setCell (t2.add 1) (.int .i64 t53_1)).setCell (t2.add 2) (.int .i64 t53_2)).setCell (t2.add 3) (.int .i64 t53_3)).setCell (t2.add 4) (.int .i64 t53_4)).setCell (t2.add 5) (.int .i64 t53_5)).cell? (t2.add 1) = some (.int .i64 t2_1_1) ∧
    ∃ (t2_2_1 : Int),
    ((((((w.setCell t2 (.int .u8 t53_0)).setCell (t2.add 1) (.int .i64 t53_1)).setCell (t2.add 2) (.int .i64 t53_2)).setCell (t2.add 3) (.int .i64 t53_3)).setCell (t2.add 4) (.int .i64 t53_4)).setCell (t2.add 5) (.int .i64 t53_5)).cell? (t2.add 2) = some (.int .i64 t2_2_1) ∧
    ∃ (t2_3_1 : Int),
    ((((((w.setCell t2 (.int .u8 t53_0)).setCell (t2.add 1) (.int .i64 t53_1)).setCell (t2.add 2) (.int .i64 t53_2)).setCell (t2.add 3) (.int .i64 t53_3)).setCell (t2.add 4) (.int .i64 t53_4)).setCell (t2.add 5) (.int .i64 t53_5)).cell? (t2.add 3) = some (.int .i64 t2_3_1) ∧
    ∃ (t2_4_1 : Int),
    ((((((w.setCell t2 (.int .u8 t53_0)).setCell (t2.add 1) (.int .i64 t53_1)).setCell (t2.add 2) (.int .i64 t53_2)).setCell (t2.add 3) (.int .i64 t53_3)).setCell (t2.add 4) (.int .i64 t53_4)).setCell (t2.add 5) (.int .i64 t53_5)).cell? (t2.add 4) = some (.int .i64 t2_4_1) ∧
    ∃ (t2_5_1 : Int),
    ((((((w.setCell t2 (.int .u8 t53_0)).setCell (t2.add 1) (.int .i64 t53_1)).setCell (t2.add 2) (.int .i64 t53_2)).setCell (t2.add 3) (.int .i64 t53_3)).setCell (t2.add 4) (.int .i64 t53_4)).setCell (t2.add 5) (.int .i64 t53_5)).cell? (t2.add 5) = some (.int .i64 t2_5_1) ∧
    R (.tuple ⟨[(.agg ⟨[(.int .u8 t2_0_1), (.int .i64 t2_1_1), (.int .i64 t2_2_1), (.int .i64 t2_3_1), (.int .i64 t2_4_1), (.int .i64 t2_5_1)]⟩), (.int .i64 0)]⟩) ((((((w.setCell t2 (.int .u8 t53_0)).setCell (t2.add 1) (.int .i64 t53_1)).setCell (t2.add 2) (.int .i64 t53_2)).setCell (t2.add 3) (.int .i64 t53_3)).setCell (t2.add 4) (.int .i64 t53_4)).setCell (t2.add 5) (.int .i64 t53_5))
  )

def S17_k2 (t2 : Addr) (r : Addr) (x : Addr) (w : World) (R : Value → World → Prop) : Prop :=
  ∃ (t44 : Option Addr),
  w.cell? r = some (.pointer t44) ∧
  Calls Try.prog 33 ⟨[(.pointer t44)]⟩ w fun e w_ =>
    ∃ (t45 : Int),
    e = .returned (.int .i64 t45) ∧
    cond (!decide ((t45 : Int) = 0)) (
      S17_k3 t2 x true w_ R
    ) (
      ∃ (t48_0 : Int),
      w_.cell? x = some (.int .u8 t48_0) ∧
      ∃ (t48_1 : Int),
      w_.cell? (x.add 1) = some (.int .i64 t48_1) ∧
      ∃ (t48_2 : Int),
      w_.cell? (x.add 2) = some (.int .i64 t48_2) ∧
      ∃ (t48_3 : Int),
      w_.cell? (x.add 3) = some (.int .i64 t48_3) ∧
      ∃ (t48_4 : Int),
      w_.cell? (x.add 4) = some (.int .i64 t48_4) ∧
      ∃ (t48_5 : Int),
      w_.cell? (x.add 5) = some (.int .i64 t48_5) ∧
      Calls Try.prog 12 ⟨[(.agg ⟨[(.int .u8 t48_0), (.int .i64 t48_1), (.int .i64 t48_2), (.int .i64 t48_3), (.int .i64 t48_4), (.int .i64 t48_5)]⟩)]⟩ w_ fun e w__1 =>
        ∃ (t49 : Bool),
        e = .returned (.bool t49) ∧
        S17_k3 t2 x (!t49) w__1 R
    )

def S17_k1 (t2 : Addr) (r : Addr) (get_c0 : Addr) (x : Addr) (has : Int) (w : World) (R : Value → World → Prop) : Prop :=
  cond (!decide (((bitsI .and .i64 has 4) : Int) = 0)) (
    Calls Try.prog 35 ⟨[(.int .i64 6), (.pointer (some get_c0))]⟩ w fun e w_ =>
      ∃ (t36 : Int),
      e = .returned (.int .i64 t36) ∧
      Calls Try.prog 35 ⟨[(.int .i64 8), (.pointer (some get_c0))]⟩ w_ fun e w__1 =>
        ∃ (t38 : Int),
        e = .returned (.int .i64 t38) ∧
        Calls Try.prog 35 ⟨[(.int .i64 3), (.pointer (some get_c0))]⟩ w__1 fun e w__2 =>
          ∃ (t40 : Int),
          e = .returned (.int .i64 t40) ∧
          (∃ u, w__2.cell? (x.add 3) = some u) ∧
          w__2.frozen? (x.add 3) = false ∧
          (∃ u, (w__2.setCell (x.add 3) (.int .i64 t36)).cell? (x.add 4) = some u) ∧
          (w__2.setCell (x.add 3) (.int .i64 t36)).frozen? (x.add 4) = false ∧
          (∃ u, ((w__2.setCell (x.add 3) (.int .i64 t36)).setCell (x.add 4) (.int .i64 t38)).cell? (x.add 5) = some u) ∧
          ((w__2.setCell (x.add 3) (.int .i64 t36)).setCell (x.add 4) (.int .i64 t38)).frozen? (x.add 5) = false ∧
          S17_k2 t2 r x (((w__2.setCell (x.add 3) (.int .i64 t36)).setCell (x.add 4) (.int .i64 t38)).setCell (x.add 5) (.int .i64 t40)) R
  ) (
    S17_k2 t2 r x w R
  )

def S17_k0 (t2 : Addr) (r : Addr) (get_c0 : Addr) (x : Addr) (has : Int) (w : World) (R : Value → World → Prop) : Prop :=
  cond (!decide (((bitsI .and .i64 has 2) : Int) = 0)) (
    Calls Try.prog 35 ⟨[(.int .i64 3), (.pointer (some get_c0))]⟩ w fun e w_ =>
      ∃ (t30 : Int),
      e = .returned (.int .i64 t30) ∧
      (∃ u, w_.cell? (x.add 2) = some u) ∧
      w_.frozen? (x.add 2) = false ∧
      S17_k1 t2 r get_c0 x has (w_.setCell (x.add 2) (.int .i64 t30)) R
  ) (
    S17_k1 t2 r get_c0 x has w R
  )

def S17 (b_a : Option Addr) (b_l : Nat) (b_c : Nat) (w : World) (R : Value → World → Prop) : Prop :=
  Calls Try.prog 31 ⟨[(.slice b_a b_l b_c)]⟩ (w.alloc (.cells ⟨[(.int .u8 0), (.int .i64 0), (.int .i64 0), (.int .i64 0), (.int .i64 0), (.int .i64 0)]⟩ 23)) fun e w_ =>
    ∃ (t9 : Option Addr),
    e = .returned (.pointer t9) ∧
    (∃ u, (w_.alloc (.cells ⟨[(.pointer none)]⟩ 55)).cell? ⟨w_.heap.size, 0, none⟩ = some u) ∧
    (w_.alloc (.cells ⟨[(.pointer none)]⟩ 55)).frozen? ⟨w_.heap.size, 0, none⟩ = false ∧
    Calls Try.prog 35 ⟨[(.int .i64 3), (.pointer (some ⟨w_.heap.size, 0, none⟩))]⟩ ((w_.alloc (.cells ⟨[(.pointer none)]⟩ 55)).setCell ⟨w_.heap.size, 0, none⟩ (.pointer t9)) fun e w__1 =>
      ∃ (t12 : Int),
      e = .returned (.int .i64 t12) ∧
      (∃ u, (w__1.alloc (.cells ⟨[(.int .u8 0), (.int .i64 0), (.int .i64 0), (.int .i64 0), (.int .i64 0), (.int .i64 0)]⟩ 23)).cell? ⟨w__1.heap.size, 0, none⟩ = some u) ∧
      (w__1.alloc (.cells ⟨[(.int .u8 0), (.int .i64 0), (.int .i64 0), (.int .i64 0), (.int .i64 0), (.int .i64 0)]⟩ 23)).frozen? ⟨w__1.heap.size, 0, none⟩ = false ∧
      (∃ u, ((w__1.alloc (.cells ⟨[(.int .u8 0), (.int .i64 0), (.int .i64 0), (.int .i64 0), (.int .i64 0), (.int .i64 0)]⟩ 23)).setCell ⟨w__1.heap.size, 0, none⟩ (.int .u8 (IntKind.u8.wrap t12))).cell? ⟨w__1.heap.size, 1, none⟩ = some u) ∧
      ((w__1.alloc (.cells ⟨[(.int .u8 0), (.int .i64 0), (.int .i64 0), (.int .i64 0), (.int .i64 0), (.int .i64 0)]⟩ 23)).setCell ⟨w__1.heap.size, 0, none⟩ (.int .u8 (IntKind.u8.wrap t12))).frozen? ⟨w__1.heap.size, 1, none⟩ = false ∧
      (∃ u, (((w__1.alloc (.cells ⟨[(.int .u8 0), (.int .i64 0), (.int .i64 0), (.int .i64 0), (.int .i64 0), (.int .i64 0)]⟩ 23)).setCell ⟨w__1.heap.size, 0, none⟩ (.int .u8 (IntKind.u8.wrap t12))).setCell ⟨w__1.heap.size, 1, none⟩ (.int .i64 0)).cell? ⟨w__1.heap.size, 2, none⟩ = some u) ∧
      (((w__1.alloc (.cells ⟨[(.int .u8 0), (.int .i64 0), (.int .i64 0), (.int .i64 0), (.int .i64 0), (.int .i64 0)]⟩ 23)).setCell ⟨w__1.heap.size, 0, none⟩ (.int .u8 (IntKind.u8.wrap t12))).setCell ⟨w__1.heap.size, 1, none⟩ (.int .i64 0)).frozen? ⟨w__1.heap.size, 2, none⟩ = false ∧
      (∃ u, ((((w__1.alloc (.cells ⟨[(.int .u8 0), (.int .i64 0), (.int .i64 0), (.int .i64 0), (.int .i64 0), (.int .i64 0)]⟩ 23)).setCell ⟨w__1.heap.size, 0, none⟩ (.int .u8 (IntKind.u8.wrap t12))).setCell ⟨w__1.heap.size, 1, none⟩ (.int .i64 0)).setCell ⟨w__1.heap.size, 2, none⟩ (.int .i64 0)).cell? ⟨w__1.heap.size, 3, none⟩ = some u) ∧
      ((((w__1.alloc (.cells ⟨[(.int .u8 0), (.int .i64 0), (.int .i64 0), (.int .i64 0), (.int .i64 0), (.int .i64 0)]⟩ 23)).setCell ⟨w__1.heap.size, 0, none⟩ (.int .u8 (IntKind.u8.wrap t12))).setCell ⟨w__1.heap.size, 1, none⟩ (.int .i64 0)).setCell ⟨w__1.heap.size, 2, none⟩ (.int .i64 0)).frozen? ⟨w__1.heap.size, 3, none⟩ = false ∧
      (∃ u, (((((w__1.alloc (.cells ⟨[(.int .u8 0), (.int .i64 0), (.int .i64 0), (.int .i64 0), (.int .i64 0), (.int .i64 0)]⟩ 23)).setCell ⟨w__1.heap.size, 0, none⟩ (.int .u8 (IntKind.u8.wrap t12))).setCell ⟨w__1.heap.size, 1, none⟩ (.int .i64 0)).setCell ⟨w__1.heap.size, 2, none⟩ (.int .i64 0)).setCell ⟨w__1.heap.size, 3, none⟩ (.int .i64 0)).cell? ⟨w__1.heap.size, 4, none⟩ = some u) ∧
      (((((w__1.alloc (.cells ⟨[(.int .u8 0), (.int .i64 0), (.int .i64 0), (.int .i64 0), (.int .i64 0), (.int .i64 0)]⟩ 23)).setCell ⟨w__1.heap.size, 0, none⟩ (.int .u8 (IntKind.u8.wrap t12))).setCell ⟨w__1.heap.size, 1, none⟩ (.int .i64 0)).setCell ⟨w__1.heap.size, 2, none⟩ (.int .i64 0)).setCell ⟨w__1.heap.size, 3, none⟩ (.int .i64 0)).frozen? ⟨w__1.heap.size, 4, none⟩ = false ∧
      (∃ u, ((((((w__1.alloc (.cells ⟨[(.int .u8 0), (.int .i64 0), (.int .i64 0), (.int .i64 0), (.int .i64 0), (.int .i64 0)]⟩ 23)).setCell ⟨w__1.heap.size, 0, none⟩ (.int .u8 (IntKind.u8.wrap t12))).setCell ⟨w__1.heap.size, 1, none⟩ (.int .i64 0)).setCell ⟨w__1.heap.size, 2, none⟩ (.int .i64 0)).setCell ⟨w__1.heap.size, 3, none⟩ (.int .i64 0)).setCell ⟨w__1.heap.size, 4, none⟩ (.int .i64 0)).cell? ⟨w__1.heap.size, 5, none⟩ = some u) ∧
      ((((((w__1.alloc (.cells ⟨[(.int .u8 0), (.int .i64 0), (.int .i64 0), (.int .i64 0), (.int .i64 0), (.int .i64 0)]⟩ 23)).setCell ⟨w__1.heap.size, 0, none⟩ (.int .u8 (IntKind.u8.wrap t12))).setCell ⟨w__1.heap.size, 1, none⟩ (.int .i64 0)).setCell ⟨w__1.heap.size, 2, none⟩ (.int .i64 0)).setCell ⟨w__1.heap.size, 3, none⟩ (.int .i64 0)).setCell ⟨w__1.heap.size, 4, none⟩ (.int .i64 0)).frozen? ⟨w__1.heap.size, 5, none⟩ = false ∧
      ∃ (t16 : Int),
      (((((((w__1.alloc (.cells ⟨[(.int .u8 0), (.int .i64 0), (.int .i64 0), (.int .i64 0), (.int .i64 0), (.int .i64 0)]⟩ 23)).setCell ⟨w__1.heap.size, 0, none⟩ (.int .u8 (IntKind.u8.wrap t12))).setCell ⟨w__1.heap.size, 1, none⟩ (.int .i64 0)).setCell ⟨w__1.heap.size, 2, none⟩ (.int .i64 0)).setCell ⟨w__1.heap.size, 3, none⟩ (.int .i64 0)).setCell ⟨w__1.heap.size, 4, none⟩ (.int .i64 0)).setCell ⟨w__1.heap.size, 5, none⟩ (.int .i64 0)).cell? ⟨w__1.heap.size, 0, none⟩ = some (.int .u8 t16) ∧
      Calls Try.prog 20 ⟨[(.int .u8 t16)]⟩ (((((((w__1.alloc (.cells ⟨[(.int .u8 0), (.int .i64 0), (.int .i64 0), (.int .i64 0), (.int .i64 0), (.int .i64 0)]⟩ 23)).setCell ⟨w__1.heap.size, 0, none⟩ (.int .u8 (IntKind.u8.wrap t12))).setCell ⟨w__1.heap.size, 1, none⟩ (.int .i64 0)).setCell ⟨w__1.heap.size, 2, none⟩ (.int .i64 0)).setCell ⟨w__1.heap.size, 3, none⟩ (.int .i64 0)).setCell ⟨w__1.heap.size, 4, none⟩ (.int .i64 0)).setCell ⟨w__1.heap.size, 5, none⟩ (.int .i64 0)) fun e w__2 =>
        ∃ (t17 : Int),
        e = .returned (.int .i64 t17) ∧
        cond (!decide (((bitsI .and .i64 t17 1) : Int) = 0)) (
          ∃ (t21 : Option Addr),
          w__2.cell? ⟨w_.heap.size, 0, none⟩ = some (.pointer t21) ∧
          Calls Try.prog 36 ⟨[(.pointer t21)]⟩ w__2 fun e w__3 =>
            ∃ (t22 : Int),
            e = .returned (.int .u64 t22) ∧
            (∃ u, w__3.cell? ⟨w__1.heap.size, 1, none⟩ = some u) ∧
            w__3.frozen? ⟨w__1.heap.size, 1, none⟩ = false ∧
            S17_k0 ⟨w.heap.size, 0, none⟩ ⟨w_.heap.size, 0, none⟩ ⟨w_.heap.size, 0, none⟩ ⟨w__1.heap.size, 0, none⟩ t17 (w__3.setCell ⟨w__1.heap.size, 1, none⟩ (.int .i64 (IntKind.i64.wrap (if 1073741825 < t22 then 1073741825 else t22)))) R
        ) (
          S17_k0 ⟨w.heap.size, 0, none⟩ ⟨w_.heap.size, 0, none⟩ ⟨w_.heap.size, 0, none⟩ ⟨w__1.heap.size, 0, none⟩ t17 w__2 R
        )

theorem S17_eq (b_a : Option Addr) (b_l : Nat) (b_c : Nat) (w : World) (R : Value → World → Prop) : Eng.R Try.prog ⟨cal, S17_nx⟩ 54 S17_ann [] (Try.f17.body.getD .skip) (bodyQ Try.prog #[.cell 2 23, .tmp 3] R) (argE [(.slice b_a b_l b_c)]) w = S17 b_a b_l b_c w R := by kernel_rfl
/-- A call of 'carfax/record.Take', by its condition. -/
theorem S17_calls {b_a : Option Addr} {b_l : Nat} {b_c : Nat} {w : World} {R : Value → World → Prop} (hS : S17 b_a b_l b_c w R) : Ret Try.prog 17 [(.slice b_a b_l b_c)] w R :=
  R_calls (C := ⟨cal, S17_nx⟩) cal_ok follows Try.func17 (c := Try.f17.body.getD .skip) (res := #[.cell 2 23, .tmp 3]) (n := 54) (by kernel_rfl) (by kernel_rfl) (by kernel_rfl) (by kernel_rfl) ((S17_eq b_a b_l b_c w R).mpr hS)

def S18_ann (p : List Nat) : Option LA :=
  none

def S18_nx (t : Nat) : Option (TypeId × TypeId) := none

def S18_k5 (t2 : Addr) (x : Addr) (t71 : Bool) (w : World) (R : Value → World → Prop) : Prop :=
  cond t71 (
    (∃ u, w.cell? t2 = some u) ∧
    w.frozen? t2 = false ∧
    (∃ u, (w.setCell t2 (.int .u8 0)).cell? (t2.add 1) = some u) ∧
    (w.setCell t2 (.int .u8 0)).frozen? (t2.add 1) = false ∧
    (∃ u, ((w.setCell t2 (.int .u8 0)).setCell (t2.add 1) (.int .i64 0)).cell? (t2.add 2) = some u) ∧
    ((w.setCell t2 (.int .u8 0)).setCell (t2.add 1) (.int .i64 0)).frozen? (t2.add 2) = false ∧
    (∃ u, (((w.setCell t2 (.int .u8 0)).setCell (t2.add 1) (.int .i64 0)).setCell (t2.add 2) (.int .i64 0)).cell? (t2.add 3) = some u) ∧
    (((w.setCell t2 (.int .u8 0)).setCell (t2.add 1) (.int .i64 0)).setCell (t2.add 2) (.int .i64 0)).frozen? (t2.add 3) = false ∧
    (∃ u, ((((w.setCell t2 (.int .u8 0)).setCell (t2.add 1) (.int .i64 0)).setCell (t2.add 2) (.int .i64 0)).setCell (t2.add 3) (.int .i64 0)).cell? (t2.add 4) = some u) ∧
    ((((w.setCell t2 (.int .u8 0)).setCell (t2.add 1) (.int .i64 0)).setCell (t2.add 2) (.int .i64 0)).setCell (t2.add 3) (.int .i64 0)).frozen? (t2.add 4) = false ∧
    (∃ u, (((((w.setCell t2 (.int .u8 0)).setCell (t2.add 1) (.int .i64 0)).setCell (t2.add 2) (.int .i64 0)).setCell (t2.add 3) (.int .i64 0)).setCell (t2.add 4) (.int .i64 0)).cell? (t2.add 5) = some u) ∧
    (((((w.setCell t2 (.int .u8 0)).setCell (t2.add 1) (.int .i64 0)).setCell (t2.add 2) (.int .i64 0)).setCell (t2.add 3) (.int .i64 0)).setCell (t2.add 4) (.int .i64 0)).frozen? (t2.add 5) = false ∧
    ∃ (t2_0 : Int),
    ((((((w.setCell t2 (.int .u8 0)).setCell (t2.add 1) (.int .i64 0)).setCell (t2.add 2) (.int .i64 0)).setCell (t2.add 3) (.int .i64 0)).setCell (t2.add 4) (.int .i64 0)).setCell (t2.add 5) (.int .i64 0)).cell? t2 = some (.int .u8 t2_0) ∧
    ∃ (t2_1 : Int),
    ((((((w.setCell t2 (.int .u8 0)).setCell (t2.add 1) (.int .i64 0)).setCell (t2.add 2) (.int .i64 0)).setCell (t2.add 3) (.int .i64 0)).setCell (t2.add 4) (.int .i64 0)).setCell (t2.add 5) (.int .i64 0)).cell? (t2.add 1) = some (.int .i64 t2_1) ∧
    ∃ (t2_2 : Int),
    ((((((w.setCell t2 (.int .u8 0)).setCell (t2.add 1) (.int .i64 0)).setCell (t2.add 2) (.int .i64 0)).setCell (t2.add 3) (.int .i64 0)).setCell (t2.add 4) (.int .i64 0)).setCell (t2.add 5) (.int .i64 0)).cell? (t2.add 2) = some (.int .i64 t2_2) ∧
    ∃ (t2_3 : Int),
    ((((((w.setCell t2 (.int .u8 0)).setCell (t2.add 1) (.int .i64 0)).setCell (t2.add 2) (.int .i64 0)).setCell (t2.add 3) (.int .i64 0)).setCell (t2.add 4) (.int .i64 0)).setCell (t2.add 5) (.int .i64 0)).cell? (t2.add 3) = some (.int .i64 t2_3) ∧
    ∃ (t2_4 : Int),
    ((((((w.setCell t2 (.int .u8 0)).setCell (t2.add 1) (.int .i64 0)).setCell (t2.add 2) (.int .i64 0)).setCell (t2.add 3) (.int .i64 0)).setCell (t2.add 4) (.int .i64 0)).setCell (t2.add 5) (.int .i64 0)).cell? (t2.add 4) = some (.int .i64 t2_4) ∧
    ∃ (t2_5 : Int),
    ((((((w.setCell t2 (.int .u8 0)).setCell (t2.add 1) (.int .i64 0)).setCell (t2.add 2) (.int .i64 0)).setCell (t2.add 3) (.int .i64 0)).setCell (t2.add 4) (.int .i64 0)).setCell (t2.add 5) (.int .i64 0)).cell? (t2.add 5) = some (.int .i64 t2_5) ∧
    R (.tuple ⟨[(.agg ⟨[(.int .u8 t2_0), (.int .i64 t2_1), (.int .i64 t2_2), (.int .i64 t2_3), (.int .i64 t2_4), (.int .i64 t2_5)]⟩), (.int .i64 170)]⟩) ((((((w.setCell t2 (.int .u8 0)).setCell (t2.add 1) (.int .i64 0)).setCell (t2.add 2) (.int .i64 0)).setCell (t2.add 3) (.int .i64 0)).setCell (t2.add 4) (.int .i64 0)).setCell (t2.add 5) (.int .i64 0))
  ) (
    ∃ (t73_0 : Int),
    w.cell? x = some (.int .u8 t73_0) ∧
    ∃ (t73_1 : Int),
    w.cell? (x.add 1) = some (.int .i64 t73_1) ∧
    ∃ (t73_2 : Int),
    w.cell? (x.add 2) = some (.int .i64 t73_2) ∧
    ∃ (t73_3 : Int),
    w.cell? (x.add 3) = some (.int .i64 t73_3) ∧
    ∃ (t73_4 : Int),
    w.cell? (x.add 4) = some (.int .i64 t73_4) ∧
    ∃ (t73_5 : Int),
    w.cell? (x.add 5) = some (.int .i64 t73_5) ∧
    (∃ u, w.cell? t2 = some u) ∧
    w.frozen? t2 = false ∧
    (∃ u, (w.setCell t2 (.int .u8 t73_0)).cell? (t2.add 1) = some u) ∧
    (w.setCell t2 (.int .u8 t73_0)).frozen? (t2.add 1) = false ∧
    (∃ u, ((w.setCell t2 (.int .u8 t73_0)).setCell (t2.add 1) (.int .i64 t73_1)).cell? (t2.add 2) = some u) ∧
    ((w.setCell t2 (.int .u8 t73_0)).setCell (t2.add 1) (.int .i64 t73_1)).frozen? (t2.add 2) = false ∧
    (∃ u, (((w.setCell t2 (.int .u8 t73_0)).setCell (t2.add 1) (.int .i64 t73_1)).setCell (t2.add 2) (.int .i64 t73_2)).cell? (t2.add 3) = some u) ∧
    (((w.setCell t2 (.int .u8 t73_0)).setCell (t2.add 1) (.int .i64 t73_1)).setCell (t2.add 2) (.int .i64 t73_2)).frozen? (t2.add 3) = false ∧
    (∃ u, ((((w.setCell t2 (.int .u8 t73_0)).setCell (t2.add 1) (.int .i64 t73_1)).setCell (t2.add 2) (.int .i64 t73_2)).setCell (t2.add 3) (.int .i64 t73_3)).cell? (t2.add 4) = some u) ∧
    ((((w.setCell t2 (.int .u8 t73_0)).setCell (t2.add 1) (.int .i64 t73_1)).setCell (t2.add 2) (.int .i64 t73_2)).setCell (t2.add 3) (.int .i64 t73_3)).frozen? (t2.add 4) = false ∧
    (∃ u, (((((w.setCell t2 (.int .u8 t73_0)).setCell (t2.add 1) (.int .i64 t73_1)).setCell (t2.add 2) (.int .i64 t73_2)).setCell (t2.add 3) (.int .i64 t73_3)).setCell (t2.add 4) (.int .i64 t73_4)).cell? (t2.add 5) = some u) ∧
    (((((w.setCell t2 (.int .u8 t73_0)).setCell (t2.add 1) (.int .i64 t73_1)).setCell (t2.add 2) (.int .i64 t73_2)).setCell (t2.add 3) (.int .i64 t73_3)).setCell (t2.add 4) (.int .i64 t73_4)).frozen? (t2.add 5) = false ∧
    ∃ (t2_0_1 : Int),
    ((((((w.setCell t2 (.int .u8 t73_0)).setCell (t2.add 1) (.int .i64 t73_1)).setCell (t2.add 2) (.int .i64 t73_2)).setCell (t2.add 3) (.int .i64 t73_3)).setCell (t2.add 4) (.int .i64 t73_4)).setCell (t2.add 5) (.int .i64 t73_5)).cell? t2 = some (.int .u8 t2_0_1) ∧
    ∃ (t2_1_1 : Int),
    ((((((w.setCell t2 (.int .u8 t73_0)).setCell (t2.add 1) (.int .i64 t73_1)).setCell (t2.add 2) (.int .i64 t73_2)).setCell (t2.add 3) (.int .i64 t73_3)).setCell (t2.add 4) (.int .i64 t73_4)).setCell (t2.add 5) (.int .i64 t73_5)).cell? (t2.add 1) = some (.int .i64 t2_1_1) ∧
    ∃ (t2_2_1 : Int),
    ((((((w.setCell t2 (.int .u8 t73_0)).setCell (t2.add 1) (.int .i64 t73_1)).setCell (t2.add 2) (.int .i64 t73_2)).setCell (t2.add 3) (.int .i64 t73_3)).setCell (t2.add 4) (.int .i64 t73_4)).setCell (t2.add 5) (.int .i64 t73_5)).cell? (t2.add 2) = some (.int .i64 t2_2_1) ∧
    ∃ (t2_3_1 : Int),
    ((((((w.setCell t2 (.int .u8 t73_0)).setCell (t2.add 1) (.int .i64 t73_1)).setCell (t2.add 2) (.int .i64 t73_2)).setCell (t2.add 3) (.int .i64 t73_3)).setCell (t2.add 4) (.int .i64 t73_4)).setCell (t2.add 5) (.int .i64 t73_5)).cell? (t2.add 3) = some (.int .i64 t2_3_1) ∧
    ∃ (t2_4_1 : Int),
    ((((((w.setCell t2 (.int .u8 t73_0)).setCell (t2.add 1) (.int .i64 t73_1)).setCell (t2.add 2) (.int .i64 t73_2)).setCell (t2.add 3) (.int .i64 t73_3)).setCell (t2.add 4) (.int .i64 t73_4)).setCell (t2.add 5) (.int .i64 t73_5)).cell? (t2.add 4) = some (.int .i64 t2_4_1) ∧
    ∃ (t2_5_1 : Int),
    ((((((w.setCell t2 (.int .u8 t73_0)).setCell (t2.add 1) (.int .i64 t73_1)).setCell (t2.add 2) (.int .i64 t73_2)).setCell (t2.add 3) (.int .i64 t73_3)).setCell (t2.add 4) (.int .i64 t73_4)).setCell (t2.add 5) (.int .i64 t73_5)).cell? (t2.add 5) = some (.int .i64 t2_5_1) ∧
    R (.tuple ⟨[(.agg ⟨[(.int .u8 t2_0_1), (.int .i64 t2_1_1), (.int .i64 t2_2_1), (.int .i64 t2_3_1), (.int .i64 t2_4_1), (.int .i64 t2_5_1)]⟩), (.int .i64 0)]⟩) ((((((w.setCell t2 (.int .u8 t73_0)).setCell (t2.add 1) (.int .i64 t73_1)).setCell (t2.add 2) (.int .i64 t73_2)).setCell (t2.add 3) (.int .i64 t73_3)).setCell (t2.add 4) (.int .i64 t73_4)).setCell (t2.add 5) (.int .i64 t73_5))
  )

def S18_k4 (b_a : Option Addr) (b_l : Nat) (b_c : Nat) (t2 : Addr) (r : Option Addr) (x : Addr) (w : World) (R : Value → World → Prop) : Prop :=
  ∃ (t54_0 : Int),
  w.cell? x = some (.int .u8 t54_0) ∧
  ∃ (t54_1 : Int),
  w.cell? (x.add 1) = some (.int .i64 t54_1) ∧
  ∃ (t54_2 : Int),
  w.cell? (x.add 2) = some (.int .i64 t54_2) ∧
  ∃ (t54_3 : Int),
  w.cell? (x.add 3) = some (.int .i64 t54_3) ∧
  ∃ (t54_4 : Int),
  w.cell? (x.add 4) = some (.int .i64 t54_4) ∧
  ∃ (t54_5 : Int),
  w.cell? (x.add 5) = some (.int .i64 t54_5) ∧
  Calls Try.prog 10 ⟨[(.agg ⟨[(.int .u8 t54_0), (.int .i64 t54_1), (.int .i64 t54_2), (.int .i64 t54_3), (.int .i64 t54_4), (.int .i64 t54_5)]⟩)]⟩ w fun e w_ =>
    ∃ (t55_0_a : Option Addr) (t55_0_l : Nat) (t55_0_c : Nat) (t55_1 : Int),
    e = .returned (.tuple ⟨[(.slice t55_0_a t55_0_l t55_0_c), (.int .i64 t55_1)]⟩) ∧
    Calls Try.prog 40 ⟨[(.pointer r)]⟩ w_ fun e w__1 =>
      ∃ (t59 : Int),
      e = .returned (.int .i64 t59) ∧
      cond (!decide ((t59 : Int) = 0)) (
        S18_k5 t2 x true w__1 R
      ) (
        cond (!decide ((t55_1 : Int) = 0)) (
          S18_k5 t2 x true w__1 R
        ) (
          ∃ (t67 : ByteArray) (w__2 : World),
          (convert 24 9 (.slice t55_0_a t55_0_l t55_0_c)).run Try.prog w__1 = .ok (.string t67) w__2 ∧
          ∃ (t69 : ByteArray) (w__3 : World),
          (convert 24 9 (.slice b_a b_l b_c)).run Try.prog w__2 = .ok (.string t69) w__3 ∧
          S18_k5 t2 x (!decide ((t67 : ByteArray) = t69)) w__3 R
        )
      )

def S18_k3 (b_a : Option Addr) (b_l : Nat) (b_c : Nat) (t2 : Addr) (r : Option Addr) (x : Addr) (w : World) (R : Value → World → Prop) : Prop :=
  ∃ (t39 : Int),
  w.cell? x = some (.int .u8 t39) ∧
  cond (decide ((t39 : Int) = 1)) (
    Calls Try.prog 38 ⟨[(.pointer r), (.int .i64 6)]⟩ w fun e w_ =>
      ∃ (t42 : Int),
      e = .returned (.int .u64 t42) ∧
      (∃ u, w_.cell? (x.add 3) = some u) ∧
      w_.frozen? (x.add 3) = false ∧
      Calls Try.prog 38 ⟨[(.pointer r), (.int .i64 8)]⟩ (w_.setCell (x.add 3) (.int .i64 (IntKind.i64.wrap t42))) fun e w__1 =>
        ∃ (t46 : Int),
        e = .returned (.int .u64 t46) ∧
        (∃ u, w__1.cell? (x.add 4) = some u) ∧
        w__1.frozen? (x.add 4) = false ∧
        Calls Try.prog 38 ⟨[(.pointer r), (.int .i64 3)]⟩ (w__1.setCell (x.add 4) (.int .i64 (IntKind.i64.wrap t46))) fun e w__2 =>
          ∃ (t50 : Int),
          e = .returned (.int .u64 t50) ∧
          (∃ u, w__2.cell? (x.add 5) = some u) ∧
          w__2.frozen? (x.add 5) = false ∧
          S18_k4 b_a b_l b_c t2 r x (w__2.setCell (x.add 5) (.int .i64 (IntKind.i64.wrap t50))) R
  ) (
    S18_k4 b_a b_l b_c t2 r x w R
  )

def S18_k2 (b_a : Option Addr) (b_l : Nat) (b_c : Nat) (t2 : Addr) (r : Option Addr) (x : Addr) (w : World) (R : Value → World → Prop) : Prop :=
  ∃ (t32 : Int),
  w.cell? x = some (.int .u8 t32) ∧
  cond (decide ((3 : Int) ≤ t32)) (
    Calls Try.prog 38 ⟨[(.pointer r), (.int .i64 3)]⟩ w fun e w_ =>
      ∃ (t35 : Int),
      e = .returned (.int .u64 t35) ∧
      (∃ u, w_.cell? (x.add 2) = some u) ∧
      w_.frozen? (x.add 2) = false ∧
      S18_k3 b_a b_l b_c t2 r x (w_.setCell (x.add 2) (.int .i64 (IntKind.i64.wrap t35))) R
  ) (
    S18_k3 b_a b_l b_c t2 r x w R
  )

def S18_k1 (b_a : Option Addr) (b_l : Nat) (b_c : Nat) (t2 : Addr) (r : Option Addr) (x : Addr) (n_ : Int) (w : World) (R : Value → World → Prop) : Prop :=
  (∃ u, w.cell? (x.add 1) = some u) ∧
  w.frozen? (x.add 1) = false ∧
  S18_k2 b_a b_l b_c t2 r x (w.setCell (x.add 1) (.int .i64 (IntKind.i64.wrap n_))) R

def S18_k0 (b_a : Option Addr) (b_l : Nat) (b_c : Nat) (t2 : Addr) (r : Option Addr) (x : Addr) (t22 : Bool) (w : World) (R : Value → World → Prop) : Prop :=
  cond t22 (
    Calls Try.prog 39 ⟨[(.pointer r)]⟩ w fun e w_ =>
      ∃ (t24 : Int),
      e = .returned (.int .u64 t24) ∧
      cond (decide ((1073741824 : Int) < t24)) (
        (∃ u, w_.cell? t2 = some u) ∧
        w_.frozen? t2 = false ∧
        (∃ u, (w_.setCell t2 (.int .u8 0)).cell? (t2.add 1) = some u) ∧
        (w_.setCell t2 (.int .u8 0)).frozen? (t2.add 1) = false ∧
        (∃ u, ((w_.setCell t2 (.int .u8 0)).setCell (t2.add 1) (.int .i64 0)).cell? (t2.add 2) = some u) ∧
        ((w_.setCell t2 (.int .u8 0)).setCell (t2.add 1) (.int .i64 0)).frozen? (t2.add 2) = false ∧
        (∃ u, (((w_.setCell t2 (.int .u8 0)).setCell (t2.add 1) (.int .i64 0)).setCell (t2.add 2) (.int .i64 0)).cell? (t2.add 3) = some u) ∧
        (((w_.setCell t2 (.int .u8 0)).setCell (t2.add 1) (.int .i64 0)).setCell (t2.add 2) (.int .i64 0)).frozen? (t2.add 3) = false ∧
        (∃ u, ((((w_.setCell t2 (.int .u8 0)).setCell (t2.add 1) (.int .i64 0)).setCell (t2.add 2) (.int .i64 0)).setCell (t2.add 3) (.int .i64 0)).cell? (t2.add 4) = some u) ∧
        ((((w_.setCell t2 (.int .u8 0)).setCell (t2.add 1) (.int .i64 0)).setCell (t2.add 2) (.int .i64 0)).setCell (t2.add 3) (.int .i64 0)).frozen? (t2.add 4) = false ∧
        (∃ u, (((((w_.setCell t2 (.int .u8 0)).setCell (t2.add 1) (.int .i64 0)).setCell (t2.add 2) (.int .i64 0)).setCell (t2.add 3) (.int .i64 0)).setCell (t2.add 4) (.int .i64 0)).cell? (t2.add 5) = some u) ∧
        (((((w_.setCell t2 (.int .u8 0)).setCell (t2.add 1) (.int .i64 0)).setCell (t2.add 2) (.int .i64 0)).setCell (t2.add 3) (.int .i64 0)).setCell (t2.add 4) (.int .i64 0)).frozen? (t2.add 5) = false ∧
        ∃ (t2_0 : Int),
        ((((((w_.setCell t2 (.int .u8 0)).setCell (t2.add 1) (.int .i64 0)).setCell (t2.add 2) (.int .i64 0)).setCell (t2.add 3) (.int .i64 0)).setCell (t2.add 4) (.int .i64 0)).setCell (t2.add 5) (.int .i64 0)).cell? t2 = some (.int .u8 t2_0) ∧
        ∃ (t2_1 : Int),
        ((((((w_.setCell t2 (.int .u8 0)).setCell (t2.add 1) (.int .i64 0)).setCell (t2.add 2) (.int .i64 0)).setCell (t2.add 3) (.int .i64 0)).setCell (t2.add 4) (.int .i64 0)).setCell (t2.add 5) (.int .i64 0)).cell? (t2.add 1) = some (.int .i64 t2_1) ∧
        ∃ (t2_2 : Int),
        ((((((w_.setCell t2 (.int .u8 0)).setCell (t2.add 1) (.int .i64 0)).setCell (t2.add 2) (.int .i64 0)).setCell (t2.add 3) (.int .i64 0)).setCell (t2.add 4) (.int .i64 0)).setCell (t2.add 5) (.int .i64 0)).cell? (t2.add 2) = some (.int .i64 t2_2) ∧
        ∃ (t2_3 : Int),
        ((((((w_.setCell t2 (.int .u8 0)).setCell (t2.add 1) (.int .i64 0)).setCell (t2.add 2) (.int .i64 0)).setCell (t2.add 3) (.int .i64 0)).setCell (t2.add 4) (.int .i64 0)).setCell (t2.add 5) (.int .i64 0)).cell? (t2.add 3) = some (.int .i64 t2_3) ∧
        ∃ (t2_4 : Int),
        ((((((w_.setCell t2 (.int .u8 0)).setCell (t2.add 1) (.int .i64 0)).setCell (t2.add 2) (.int .i64 0)).setCell (t2.add 3) (.int .i64 0)).setCell (t2.add 4) (.int .i64 0)).setCell (t2.add 5) (.int .i64 0)).cell? (t2.add 4) = some (.int .i64 t2_4) ∧
        ∃ (t2_5 : Int),
        ((((((w_.setCell t2 (.int .u8 0)).setCell (t2.add 1) (.int .i64 0)).setCell (t2.add 2) (.int .i64 0)).setCell (t2.add 3) (.int .i64 0)).setCell (t2.add 4) (.int .i64 0)).setCell (t2.add 5) (.int .i64 0)).cell? (t2.add 5) = some (.int .i64 t2_5) ∧
        R (.tuple ⟨[(.agg ⟨[(.int .u8 t2_0), (.int .i64 t2_1), (.int .i64 t2_2), (.int .i64 t2_3), (.int .i64 t2_4), (.int .i64 t2_5)]⟩), (.int .i64 170)]⟩) ((((((w_.setCell t2 (.int .u8 0)).setCell (t2.add 1) (.int .i64 0)).setCell (t2.add 2) (.int .i64 0)).setCell (t2.add 3) (.int .i64 0)).setCell (t2.add 4) (.int .i64 0)).setCell (t2.add 5) (.int .i64 0))
      ) (
        S18_k1 b_a b_l b_c t2 r x t24 w_ R
      )
  ) (
    S18_k2 b_a b_l b_c t2 r x w R
  )

def S18 (b_a : Option Addr) (b_l : Nat) (b_c : Nat) (w : World) (R : Value → World → Prop) : Prop :=
  Calls Try.prog 37 ⟨[(.slice b_a b_l b_c)]⟩ (w.alloc (.cells ⟨[(.int .u8 0), (.int .i64 0), (.int .i64 0), (.int .i64 0), (.int .i64 0), (.int .i64 0)]⟩ 23)) fun e w_ =>
    ∃ (t10 : Option Addr),
    e = .returned (.pointer t10) ∧
    Calls Try.prog 38 ⟨[(.pointer t10), (.int .i64 3)]⟩ w_ fun e w__1 =>
      ∃ (t12 : Int),
      e = .returned (.int .u64 t12) ∧
      (∃ u, (w__1.alloc (.cells ⟨[(.int .u8 0), (.int .i64 0), (.int .i64 0), (.int .i64 0), (.int .i64 0), (.int .i64 0)]⟩ 23)).cell? ⟨w__1.heap.size, 0, none⟩ = some u) ∧
      (w__1.alloc (.cells ⟨[(.int .u8 0), (.int .i64 0), (.int .i64 0), (.int .i64 0), (.int .i64 0), (.int .i64 0)]⟩ 23)).frozen? ⟨w__1.heap.size, 0, none⟩ = false ∧
      (∃ u, ((w__1.alloc (.cells ⟨[(.int .u8 0), (.int .i64 0), (.int .i64 0), (.int .i64 0), (.int .i64 0), (.int .i64 0)]⟩ 23)).setCell ⟨w__1.heap.size, 0, none⟩ (.int .u8 (IntKind.u8.wrap t12))).cell? ⟨w__1.heap.size, 1, none⟩ = some u) ∧
      ((w__1.alloc (.cells ⟨[(.int .u8 0), (.int .i64 0), (.int .i64 0), (.int .i64 0), (.int .i64 0), (.int .i64 0)]⟩ 23)).setCell ⟨w__1.heap.size, 0, none⟩ (.int .u8 (IntKind.u8.wrap t12))).frozen? ⟨w__1.heap.size, 1, none⟩ = false ∧
      (∃ u, (((w__1.alloc (.cells ⟨[(.int .u8 0), (.int .i64 0), (.int .i64 0), (.int .i64 0), (.int .i64 0), (.int .i64 0)]⟩ 23)).setCell ⟨w__1.heap.size, 0, none⟩ (.int .u8 (IntKind.u8.wrap t12))).setCell ⟨w__1.heap.size, 1, none⟩ (.int .i64 0)).cell? ⟨w__1.heap.size, 2, none⟩ = some u) ∧
      (((w__1.alloc (.cells ⟨[(.int .u8 0), (.int .i64 0), (.int .i64 0), (.int .i64 0), (.int .i64 0), (.int .i64 0)]⟩ 23)).setCell ⟨w__1.heap.size, 0, none⟩ (.int .u8 (IntKind.u8.wrap t12))).setCell ⟨w__1.heap.size, 1, none⟩ (.int .i64 0)).frozen? ⟨w__1.heap.size, 2, none⟩ = false ∧
      (∃ u, ((((w__1.alloc (.cells ⟨[(.int .u8 0), (.int .i64 0), (.int .i64 0), (.int .i64 0), (.int .i64 0), (.int .i64 0)]⟩ 23)).setCell ⟨w__1.heap.size, 0, none⟩ (.int .u8 (IntKind.u8.wrap t12))).setCell ⟨w__1.heap.size, 1, none⟩ (.int .i64 0)).setCell ⟨w__1.heap.size, 2, none⟩ (.int .i64 0)).cell? ⟨w__1.heap.size, 3, none⟩ = some u) ∧
      ((((w__1.alloc (.cells ⟨[(.int .u8 0), (.int .i64 0), (.int .i64 0), (.int .i64 0), (.int .i64 0), (.int .i64 0)]⟩ 23)).setCell ⟨w__1.heap.size, 0, none⟩ (.int .u8 (IntKind.u8.wrap t12))).setCell ⟨w__1.heap.size, 1, none⟩ (.int .i64 0)).setCell ⟨w__1.heap.size, 2, none⟩ (.int .i64 0)).frozen? ⟨w__1.heap.size, 3, none⟩ = false ∧
      (∃ u, (((((w__1.alloc (.cells ⟨[(.int .u8 0), (.int .i64 0), (.int .i64 0), (.int .i64 0), (.int .i64 0), (.int .i64 0)]⟩ 23)).setCell ⟨w__1.heap.size, 0, none⟩ (.int .u8 (IntKind.u8.wrap t12))).setCell ⟨w__1.heap.size, 1, none⟩ (.int .i64 0)).setCell ⟨w__1.heap.size, 2, none⟩ (.int .i64 0)).setCell ⟨w__1.heap.size, 3, none⟩ (.int .i64 0)).cell? ⟨w__1.heap.size, 4, none⟩ = some u) ∧
      (((((w__1.alloc (.cells ⟨[(.int .u8 0), (.int .i64 0), (.int .i64 0), (.int .i64 0), (.int .i64 0), (.int .i64 0)]⟩ 23)).setCell ⟨w__1.heap.size, 0, none⟩ (.int .u8 (IntKind.u8.wrap t12))).setCell ⟨w__1.heap.size, 1, none⟩ (.int .i64 0)).setCell ⟨w__1.heap.size, 2, none⟩ (.int .i64 0)).setCell ⟨w__1.heap.size, 3, none⟩ (.int .i64 0)).frozen? ⟨w__1.heap.size, 4, none⟩ = false ∧
      (∃ u, ((((((w__1.alloc (.cells ⟨[(.int .u8 0), (.int .i64 0), (.int .i64 0), (.int .i64 0), (.int .i64 0), (.int .i64 0)]⟩ 23)).setCell ⟨w__1.heap.size, 0, none⟩ (.int .u8 (IntKind.u8.wrap t12))).setCell ⟨w__1.heap.size, 1, none⟩ (.int .i64 0)).setCell ⟨w__1.heap.size, 2, none⟩ (.int .i64 0)).setCell ⟨w__1.heap.size, 3, none⟩ (.int .i64 0)).setCell ⟨w__1.heap.size, 4, none⟩ (.int .i64 0)).cell? ⟨w__1.heap.size, 5, none⟩ = some u) ∧
      ((((((w__1.alloc (.cells ⟨[(.int .u8 0), (.int .i64 0), (.int .i64 0), (.int .i64 0), (.int .i64 0), (.int .i64 0)]⟩ 23)).setCell ⟨w__1.heap.size, 0, none⟩ (.int .u8 (IntKind.u8.wrap t12))).setCell ⟨w__1.heap.size, 1, none⟩ (.int .i64 0)).setCell ⟨w__1.heap.size, 2, none⟩ (.int .i64 0)).setCell ⟨w__1.heap.size, 3, none⟩ (.int .i64 0)).setCell ⟨w__1.heap.size, 4, none⟩ (.int .i64 0)).frozen? ⟨w__1.heap.size, 5, none⟩ = false ∧
      ∃ (t16 : Int),
      (((((((w__1.alloc (.cells ⟨[(.int .u8 0), (.int .i64 0), (.int .i64 0), (.int .i64 0), (.int .i64 0), (.int .i64 0)]⟩ 23)).setCell ⟨w__1.heap.size, 0, none⟩ (.int .u8 (IntKind.u8.wrap t12))).setCell ⟨w__1.heap.size, 1, none⟩ (.int .i64 0)).setCell ⟨w__1.heap.size, 2, none⟩ (.int .i64 0)).setCell ⟨w__1.heap.size, 3, none⟩ (.int .i64 0)).setCell ⟨w__1.heap.size, 4, none⟩ (.int .i64 0)).setCell ⟨w__1.heap.size, 5, none⟩ (.int .i64 0)).cell? ⟨w__1.heap.size, 0, none⟩ = some (.int .u8 t16) ∧
      cond (decide ((t16 : Int) = 2)) (
        S18_k0 b_a b_l b_c ⟨w.heap.size, 0, none⟩ t10 ⟨w__1.heap.size, 0, none⟩ true (((((((w__1.alloc (.cells ⟨[(.int .u8 0), (.int .i64 0), (.int .i64 0), (.int .i64 0), (.int .i64 0), (.int .i64 0)]⟩ 23)).setCell ⟨w__1.heap.size, 0, none⟩ (.int .u8 (IntKind.u8.wrap t12))).setCell ⟨w__1.heap.size, 1, none⟩ (.int .i64 0)).setCell ⟨w__1.heap.size, 2, none⟩ (.int .i64 0)).setCell ⟨w__1.heap.size, 3, none⟩ (.int .i64 0)).setCell ⟨w__1.heap.size, 4, none⟩ (.int .i64 0)).setCell ⟨w__1.heap.size, 5, none⟩ (.int .i64 0)) R
      ) (
        ∃ (t20 : Int),
        (((((((w__1.alloc (.cells ⟨[(.int .u8 0), (.int .i64 0), (.int .i64 0), (.int .i64 0), (.int .i64 0), (.int .i64 0)]⟩ 23)).setCell ⟨w__1.heap.size, 0, none⟩ (.int .u8 (IntKind.u8.wrap t12))).setCell ⟨w__1.heap.size, 1, none⟩ (.int .i64 0)).setCell ⟨w__1.heap.size, 2, none⟩ (.int .i64 0)).setCell ⟨w__1.heap.size, 3, none⟩ (.int .i64 0)).setCell ⟨w__1.heap.size, 4, none⟩ (.int .i64 0)).setCell ⟨w__1.heap.size, 5, none⟩ (.int .i64 0)).cell? ⟨w__1.heap.size, 0, none⟩ = some (.int .u8 t20) ∧
        S18_k0 b_a b_l b_c ⟨w.heap.size, 0, none⟩ t10 ⟨w__1.heap.size, 0, none⟩ (decide ((t20 : Int) = 3)) (((((((w__1.alloc (.cells ⟨[(.int .u8 0), (.int .i64 0), (.int .i64 0), (.int .i64 0), (.int .i64 0), (.int .i64 0)]⟩ 23)).setCell ⟨w__1.heap.size, 0, none⟩ (.int .u8 (IntKind.u8.wrap t12))).setCell ⟨w__1.heap.size, 1, none⟩ (.int .i64 0)).setCell ⟨w__1.heap.size, 2, none⟩ (.int .i64 0)).setCell ⟨w__1.heap.size, 3, none⟩ (.int .i64 0)).setCell ⟨w__1.heap.size, 4, none⟩ (.int .i64 0)).setCell ⟨w__1.heap.size, 5, none⟩ (.int .i64 0)) R
      )

theorem S18_eq (b_a : Option Addr) (b_l : Nat) (b_c : Nat) (w : World) (R : Value → World → Prop) : Eng.R Try.prog ⟨cal, S18_nx⟩ 74 S18_ann [] (Try.f18.body.getD .skip) (bodyQ Try.prog #[.cell 2 23, .tmp 3] R) (argE [(.slice b_a b_l b_c)]) w = S18 b_a b_l b_c w R := by kernel_rfl
/-- A call of 'carfax/carfaxref17.Take', by its condition. -/
theorem S18_calls {b_a : Option Addr} {b_l : Nat} {b_c : Nat} {w : World} {R : Value → World → Prop} (hS : S18 b_a b_l b_c w R) : Ret Try.prog 18 [(.slice b_a b_l b_c)] w R :=
  R_calls (C := ⟨cal, S18_nx⟩) cal_ok follows Try.func18 (c := Try.f18.body.getD .skip) (res := #[.cell 2 23, .tmp 3]) (n := 74) (by kernel_rfl) (by kernel_rfl) (by kernel_rfl) (by kernel_rfl) ((S18_eq b_a b_l b_c w R).mpr hS)

def S19_ann (p : List Nat) : Option LA :=
  none

def S19_nx (t : Nat) : Option (TypeId × TypeId) := none

def S19_k0 (t2 : Addr) (x : Addr) (t35 : Bool) (w : World) (R : Value → World → Prop) : Prop :=
  cond t35 (
    (∃ u, w.cell? t2 = some u) ∧
    w.frozen? t2 = false ∧
    (∃ u, (w.setCell t2 (.int .u8 0)).cell? (t2.add 1) = some u) ∧
    (w.setCell t2 (.int .u8 0)).frozen? (t2.add 1) = false ∧
    (∃ u, ((w.setCell t2 (.int .u8 0)).setCell (t2.add 1) (.int .i64 0)).cell? (t2.add 2) = some u) ∧
    ((w.setCell t2 (.int .u8 0)).setCell (t2.add 1) (.int .i64 0)).frozen? (t2.add 2) = false ∧
    ∃ (t2_0 : Int),
    (((w.setCell t2 (.int .u8 0)).setCell (t2.add 1) (.int .i64 0)).setCell (t2.add 2) (.int .i64 0)).cell? t2 = some (.int .u8 t2_0) ∧
    ∃ (t2_1 : Int),
    (((w.setCell t2 (.int .u8 0)).setCell (t2.add 1) (.int .i64 0)).setCell (t2.add 2) (.int .i64 0)).cell? (t2.add 1) = some (.int .i64 t2_1) ∧
    ∃ (t2_2 : Int),
    (((w.setCell t2 (.int .u8 0)).setCell (t2.add 1) (.int .i64 0)).setCell (t2.add 2) (.int .i64 0)).cell? (t2.add 2) = some (.int .i64 t2_2) ∧
    R (.tuple ⟨[(.agg ⟨[(.int .u8 t2_0), (.int .i64 t2_1), (.int .i64 t2_2)]⟩), (.int .i64 170)]⟩) (((w.setCell t2 (.int .u8 0)).setCell (t2.add 1) (.int .i64 0)).setCell (t2.add 2) (.int .i64 0))
  ) (
    ∃ (t37_0 : Int),
    w.cell? x = some (.int .u8 t37_0) ∧
    ∃ (t37_1 : Int),
    w.cell? (x.add 1) = some (.int .i64 t37_1) ∧
    ∃ (t37_2 : Int),
    w.cell? (x.add 2) = some (.int .i64 t37_2) ∧
    (∃ u, w.cell? t2 = some u) ∧
    w.frozen? t2 = false ∧
    (∃ u, (w.setCell t2 (.int .u8 t37_0)).cell? (t2.add 1) = some u) ∧
    (w.setCell t2 (.int .u8 t37_0)).frozen? (t2.add 1) = false ∧
    (∃ u, ((w.setCell t2 (.int .u8 t37_0)).setCell (t2.add 1) (.int .i64 t37_1)).cell? (t2.add 2) = some u) ∧
    ((w.setCell t2 (.int .u8 t37_0)).setCell (t2.add 1) (.int .i64 t37_1)).frozen? (t2.add 2) = false ∧
    ∃ (t2_0_1 : Int),
    (((w.setCell t2 (.int .u8 t37_0)).setCell (t2.add 1) (.int .i64 t37_1)).setCell (t2.add 2) (.int .i64 t37_2)).cell? t2 = some (.int .u8 t2_0_1) ∧
    ∃ (t2_1_1 : Int),
    (((w.setCell t2 (.int .u8 t37_0)).setCell (t2.add 1) (.int .i64 t37_1)).setCell (t2.add 2) (.int .i64 t37_2)).cell? (t2.add 1) = some (.int .i64 t2_1_1) ∧
    ∃ (t2_2_1 : Int),
    (((w.setCell t2 (.int .u8 t37_0)).setCell (t2.add 1) (.int .i64 t37_1)).setCell (t2.add 2) (.int .i64 t37_2)).cell? (t2.add 2) = some (.int .i64 t2_2_1) ∧
    R (.tuple ⟨[(.agg ⟨[(.int .u8 t2_0_1), (.int .i64 t2_1_1), (.int .i64 t2_2_1)]⟩), (.int .i64 0)]⟩) (((w.setCell t2 (.int .u8 t37_0)).setCell (t2.add 1) (.int .i64 t37_1)).setCell (t2.add 2) (.int .i64 t37_2))
  )

def S19 (b_a : Option Addr) (b_l : Nat) (b_c : Nat) (w : World) (R : Value → World → Prop) : Prop :=
  Calls Try.prog 37 ⟨[(.slice b_a b_l b_c)]⟩ (w.alloc (.cells ⟨[(.int .u8 0), (.int .i64 0), (.int .i64 0)]⟩ 31)) fun e w_ =>
    ∃ (t9 : Option Addr),
    e = .returned (.pointer t9) ∧
    Calls Try.prog 38 ⟨[(.pointer t9), (.int .i64 2)]⟩ w_ fun e w__1 =>
      ∃ (t11 : Int),
      e = .returned (.int .u64 t11) ∧
      (∃ u, (w__1.alloc (.cells ⟨[(.int .u8 0), (.int .i64 0), (.int .i64 0)]⟩ 31)).cell? ⟨w__1.heap.size, 0, none⟩ = some u) ∧
      (w__1.alloc (.cells ⟨[(.int .u8 0), (.int .i64 0), (.int .i64 0)]⟩ 31)).frozen? ⟨w__1.heap.size, 0, none⟩ = false ∧
      (∃ u, ((w__1.alloc (.cells ⟨[(.int .u8 0), (.int .i64 0), (.int .i64 0)]⟩ 31)).setCell ⟨w__1.heap.size, 0, none⟩ (.int .u8 (IntKind.u8.wrap t11))).cell? ⟨w__1.heap.size, 1, none⟩ = some u) ∧
      ((w__1.alloc (.cells ⟨[(.int .u8 0), (.int .i64 0), (.int .i64 0)]⟩ 31)).setCell ⟨w__1.heap.size, 0, none⟩ (.int .u8 (IntKind.u8.wrap t11))).frozen? ⟨w__1.heap.size, 1, none⟩ = false ∧
      (∃ u, (((w__1.alloc (.cells ⟨[(.int .u8 0), (.int .i64 0), (.int .i64 0)]⟩ 31)).setCell ⟨w__1.heap.size, 0, none⟩ (.int .u8 (IntKind.u8.wrap t11))).setCell ⟨w__1.heap.size, 1, none⟩ (.int .i64 0)).cell? ⟨w__1.heap.size, 2, none⟩ = some u) ∧
      (((w__1.alloc (.cells ⟨[(.int .u8 0), (.int .i64 0), (.int .i64 0)]⟩ 31)).setCell ⟨w__1.heap.size, 0, none⟩ (.int .u8 (IntKind.u8.wrap t11))).setCell ⟨w__1.heap.size, 1, none⟩ (.int .i64 0)).frozen? ⟨w__1.heap.size, 2, none⟩ = false ∧
      Calls Try.prog 38 ⟨[(.pointer t9), (.int .i64 8)]⟩ ((((w__1.alloc (.cells ⟨[(.int .u8 0), (.int .i64 0), (.int .i64 0)]⟩ 31)).setCell ⟨w__1.heap.size, 0, none⟩ (.int .u8 (IntKind.u8.wrap t11))).setCell ⟨w__1.heap.size, 1, none⟩ (.int .i64 0)).setCell ⟨w__1.heap.size, 2, none⟩ (.int .i64 0)) fun e w__2 =>
        ∃ (t15 : Int),
        e = .returned (.int .u64 t15) ∧
        (∃ u, w__2.cell? ⟨w__1.heap.size, 1, none⟩ = some u) ∧
        w__2.frozen? ⟨w__1.heap.size, 1, none⟩ = false ∧
        Calls Try.prog 38 ⟨[(.pointer t9), (.int .i64 6)]⟩ (w__2.setCell ⟨w__1.heap.size, 1, none⟩ (.int .i64 (IntKind.i64.wrap t15))) fun e w__3 =>
          ∃ (t19 : Int),
          e = .returned (.int .u64 t19) ∧
          (∃ u, w__3.cell? ⟨w__1.heap.size, 2, none⟩ = some u) ∧
          w__3.frozen? ⟨w__1.heap.size, 2, none⟩ = false ∧
          ∃ (t23_0 : Int),
          (w__3.setCell ⟨w__1.heap.size, 2, none⟩ (.int .i64 (IntKind.i64.wrap t19))).cell? ⟨w__1.heap.size, 0, none⟩ = some (.int .u8 t23_0) ∧
          ∃ (t23_1 : Int),
          (w__3.setCell ⟨w__1.heap.size, 2, none⟩ (.int .i64 (IntKind.i64.wrap t19))).cell? ⟨w__1.heap.size, 1, none⟩ = some (.int .i64 t23_1) ∧
          ∃ (t23_2 : Int),
          (w__3.setCell ⟨w__1.heap.size, 2, none⟩ (.int .i64 (IntKind.i64.wrap t19))).cell? ⟨w__1.heap.size, 2, none⟩ = some (.int .i64 t23_2) ∧
          Calls Try.prog 15 ⟨[(.agg ⟨[(.int .u8 t23_0), (.int .i64 t23_1), (.int .i64 t23_2)]⟩)]⟩ (w__3.setCell ⟨w__1.heap.size, 2, none⟩ (.int .i64 (IntKind.i64.wrap t19))) fun e w__4 =>
            ∃ (t24_0_a : Option Addr) (t24_0_l : Nat) (t24_0_c : Nat) (t24_1 : Int),
            e = .returned (.tuple ⟨[(.slice t24_0_a t24_0_l t24_0_c), (.int .i64 t24_1)]⟩) ∧
            cond (!decide ((t24_1 : Int) = 0)) (
              S19_k0 ⟨w.heap.size, 0, none⟩ ⟨w__1.heap.size, 0, none⟩ true w__4 R
            ) (
              ∃ (t31 : ByteArray) (w__5 : World),
              (convert 24 9 (.slice t24_0_a t24_0_l t24_0_c)).run Try.prog w__4 = .ok (.string t31) w__5 ∧
              ∃ (t33 : ByteArray) (w__6 : World),
              (convert 24 9 (.slice b_a b_l b_c)).run Try.prog w__5 = .ok (.string t33) w__6 ∧
              S19_k0 ⟨w.heap.size, 0, none⟩ ⟨w__1.heap.size, 0, none⟩ (!decide ((t31 : ByteArray) = t33)) w__6 R
            )

theorem S19_eq (b_a : Option Addr) (b_l : Nat) (b_c : Nat) (w : World) (R : Value → World → Prop) : Eng.R Try.prog ⟨cal, S19_nx⟩ 38 S19_ann [] (Try.f19.body.getD .skip) (bodyQ Try.prog #[.cell 2 31, .tmp 3] R) (argE [(.slice b_a b_l b_c)]) w = S19 b_a b_l b_c w R := by kernel_rfl
/-- A call of 'carfax/carfaxref17.TakeAct', by its condition. -/
theorem S19_calls {b_a : Option Addr} {b_l : Nat} {b_c : Nat} {w : World} {R : Value → World → Prop} (hS : S19 b_a b_l b_c w R) : Ret Try.prog 19 [(.slice b_a b_l b_c)] w R :=
  R_calls (C := ⟨cal, S19_nx⟩) cal_ok follows Try.func19 (c := Try.f19.body.getD .skip) (res := #[.cell 2 31, .tmp 3]) (n := 38) (by kernel_rfl) (by kernel_rfl) (by kernel_rfl) (by kernel_rfl) ((S19_eq b_a b_l b_c w R).mpr hS)

def S20_ann (p : List Nat) : Option LA :=
  none

def S20_nx (t : Nat) : Option (TypeId × TypeId) := none

def S20_k0 (t10 : Bool) (w : World) (R : Value → World → Prop) : Prop :=
  cond t10 (
    R (.int .i64 2) w
  ) (
    R (.int .i64 0) w
  )

def S20 (kind : Int) (w : World) (R : Value → World → Prop) : Prop :=
  cond (decide ((kind : Int) = 1)) (
    R (.int .i64 4) w
  ) (
    cond (decide ((kind : Int) = 2)) (
      R (.int .i64 1) w
    ) (
      cond (decide ((kind : Int) = 3)) (
        R (.int .i64 3) w
      ) (
        cond (decide ((kind : Int) = 4)) (
          S20_k0 (decide ((kind : Int) = 4)) w R
        ) (
          S20_k0 (decide ((kind : Int) = 5)) w R
        )
      )
    )
  )

theorem S20_eq (kind : Int) (w : World) (R : Value → World → Prop) : Eng.R Try.prog ⟨cal, S20_nx⟩ 13 S20_ann [] (Try.f20.body.getD .skip) (bodyQ Try.prog #[.tmp 2] R) (argE [(.int .u8 kind)]) w = S20 kind w R := by kernel_rfl
/-- A call of 'carfax/record.fields', by its condition. -/
theorem S20_calls {kind : Int} {w : World} {R : Value → World → Prop} (hS : S20 kind w R) : Ret Try.prog 20 [(.int .u8 kind)] w R :=
  R_calls (C := ⟨cal, S20_nx⟩) cal_ok follows Try.func20 (c := Try.f20.body.getD .skip) (res := #[.tmp 2]) (n := 13) (by kernel_rfl) (by kernel_rfl) (by kernel_rfl) (by kernel_rfl) ((S20_eq kind w R).mpr hS)

def S21_ann (p : List Nat) : Option LA :=
  none

def S21_nx (t : Nat) : Option (TypeId × TypeId) := none

def S21 (w : World) (R : Value → World → Prop) : Prop :=
  R (.pointer (some ⟨w.heap.size, 0, none⟩)) (w.alloc (.cells ⟨[(.slice none 0 0), (.int .i64 0)]⟩ 65))

theorem S21_eq (w : World) (R : Value → World → Prop) : Eng.R Try.prog ⟨cal, S21_nx⟩ 2 S21_ann [] (Try.f21.body.getD .skip) (bodyQ Try.prog #[.tmp 0] R) (argE []) w = S21  w R := by kernel_rfl
/-- A call of 'carfax/bits.NewWriter', by its condition. -/
theorem S21_calls {w : World} {R : Value → World → Prop} (hS : S21  w R) : Ret Try.prog 21 [] w R :=
  R_calls (C := ⟨cal, S21_nx⟩) cal_ok follows Try.func21 (c := Try.f21.body.getD .skip) (res := #[.tmp 0]) (n := 2) (by kernel_rfl) (by kernel_rfl) (by kernel_rfl) (by kernel_rfl) ((S21_eq  w R).mpr hS)

def S22_ann (p : List Nat) : Option LA :=
  none

def S22_nx (t : Nat) : Option (TypeId × TypeId) := none

def S22 (w_0 : Option Addr) (n_ : Int) (width : Int) (w : World) (R : Value → World → Prop) : Prop :=
  ∃ (t7 : Option Addr),
  (w.alloc (.cells ⟨[(.pointer w_0)]⟩ 45)).cell? ⟨w.heap.size, 0, none⟩ = some (.pointer t7) ∧
  Calls Try.prog 41 ⟨[(.pointer t7), (.int .u64 (IntKind.u64.wrap n_)), (.int .i64 width)]⟩ (w.alloc (.cells ⟨[(.pointer w_0)]⟩ 45)) fun e w_ =>
    ∃ (t11 : Int),
    e = .returned (.int .i64 t11) ∧
    R (.tuple ⟨[]⟩) w_

theorem S22_eq (w_0 : Option Addr) (n_ : Int) (width : Int) (w : World) (R : Value → World → Prop) : Eng.R Try.prog ⟨cal, S22_nx⟩ 12 S22_ann [] (Try.f22.body.getD .skip) (bodyQ Try.prog #[] R) (argE [(.agg ⟨[(.pointer w_0)]⟩), (.int .i64 n_), (.int .i64 width)]) w = S22 w_0 n_ width w R := by kernel_rfl
/-- A call of '(carfax/record.layer).number', by its condition. -/
theorem S22_calls {w_0 : Option Addr} {n_ : Int} {width : Int} {w : World} {R : Value → World → Prop} (hS : S22 w_0 n_ width w R) : Ret Try.prog 22 [(.agg ⟨[(.pointer w_0)]⟩), (.int .i64 n_), (.int .i64 width)] w R :=
  R_calls (C := ⟨cal, S22_nx⟩) cal_ok follows Try.func22 (c := Try.f22.body.getD .skip) (res := #[]) (n := 12) (by kernel_rfl) (by kernel_rfl) (by kernel_rfl) (by kernel_rfl) ((S22_eq w_0 n_ width w R).mpr hS)

def S23_ann (p : List Nat) : Option LA :=
  none

def S23_nx (t : Nat) : Option (TypeId × TypeId) := none

def S23_k1 (w_ : Option Addr) (n_ : Int) (size : Int) (w : World) (R : Value → World → Prop) : Prop :=
  Calls Try.prog 41 ⟨[(.pointer w_), (.int .u64 0), (.int .i64 (IntKind.i64.wrap (size - 1)))]⟩ w fun e w__1 =>
    ∃ (t27 : Int),
    e = .returned (.int .i64 t27) ∧
    Calls Try.prog 41 ⟨[(.pointer w_), (.int .u64 (IntKind.u64.wrap (n_ + 1))), (.int .i64 size)]⟩ w__1 fun e w__2 =>
      ∃ (t32 : Int),
      e = .returned (.int .i64 t32) ∧
      R (.int .i64 t32) w__2

def S23_k0 (w_ : Option Addr) (n_ : Int) (w : World) (R : Value → World → Prop) : Prop :=
  Calls Try.prog 42 ⟨[(.int .u64 (IntKind.u64.wrap (n_ + 1)))]⟩ w fun e w__1 =>
    ∃ (t14 : Int),
    e = .returned (.int .i64 t14) ∧
    ∃ (t19 : Addr),
    w_ = some t19 ∧
    ∃ (t21 : Int),
    w__1.cell? (t19.add 1) = some (.int .i64 t21) ∧
    cond (decide (((IntKind.i64.wrap (1048576 - t21)) : Int) < (IntKind.i64.wrap ((IntKind.i64.wrap (2 * t14)) - 1)))) (
      R (.int .i64 4) w__1
    ) (
      S23_k1 w_ n_ t14 w__1 R
    )

def S23 (w_ : Option Addr) (n_ : Int) (w : World) (R : Value → World → Prop) : Prop :=
  cond (Option.isNone w_) (
    R (.int .i64 2) w
  ) (
    cond (decide ((n_ : Int) = 18446744073709551615)) (
      R (.int .i64 1) w
    ) (
      S23_k0 w_ n_ w R
    )
  )

theorem S23_eq (w_ : Option Addr) (n_ : Int) (w : World) (R : Value → World → Prop) : Eng.R Try.prog ⟨cal, S23_nx⟩ 33 S23_ann [] (Try.f23.body.getD .skip) (bodyQ Try.prog #[.tmp 4] R) (argE [(.pointer w_), (.int .u64 n_)]) w = S23 w_ n_ w R := by kernel_rfl
/-- A call of '(*carfax/bits.Writer).Count', by its condition. -/
theorem S23_calls {w_ : Option Addr} {n_ : Int} {w : World} {R : Value → World → Prop} (hS : S23 w_ n_ w R) : Ret Try.prog 23 [(.pointer w_), (.int .u64 n_)] w R :=
  R_calls (C := ⟨cal, S23_nx⟩) cal_ok follows Try.func23 (c := Try.f23.body.getD .skip) (res := #[.tmp 4]) (n := 33) (by kernel_rfl) (by kernel_rfl) (by kernel_rfl) (by kernel_rfl) ((S23_eq w_ n_ w R).mpr hS)

def S24_ann (p : List Nat) : Option LA :=
  none

def S24_nx (t : Nat) : Option (TypeId × TypeId) := none

def S24_k0 (w_ : Option Addr) (w : World) (R : Value → World → Prop) : Prop :=
  ∃ (t6 : Addr),
  w_ = some t6 ∧
  ∃ (t8_a : Option Addr) (t8_l : Nat) (t8_c : Nat),
  w.cell? t6 = some (.slice t8_a t8_l t8_c) ∧
  ∃ (t9_a : Option Addr) (t9_l : Nat) (t9_c : Nat) (w__1 : World),
  (Builtin.append_ #[24, 24] 24 ⟨[(.slice none 0 0), (.slice t8_a t8_l t8_c)]⟩).run Try.prog w = .ok (.slice t9_a t9_l t9_c) w__1 ∧
  R (.slice t9_a t9_l t9_c) w__1

def S24 (w_ : Option Addr) (w : World) (R : Value → World → Prop) : Prop :=
  cond (Option.isNone w_) (
    R (.slice none 0 0) w
  ) (
    S24_k0 w_ w R
  )

theorem S24_eq (w_ : Option Addr) (w : World) (R : Value → World → Prop) : Eng.R Try.prog ⟨cal, S24_nx⟩ 10 S24_ann [] (Try.f24.body.getD .skip) (bodyQ Try.prog #[.tmp 2] R) (argE [(.pointer w_)]) w = S24 w_ w R := by kernel_rfl
/-- A call of '(*carfax/bits.Writer).Out', by its condition. -/
theorem S24_calls {w_ : Option Addr} {w : World} {R : Value → World → Prop} (hS : S24 w_ w R) : Ret Try.prog 24 [(.pointer w_)] w R :=
  R_calls (C := ⟨cal, S24_nx⟩) cal_ok follows Try.func24 (c := Try.f24.body.getD .skip) (res := #[.tmp 2]) (n := 10) (by kernel_rfl) (by kernel_rfl) (by kernel_rfl) (by kernel_rfl) ((S24_eq w_ w R).mpr hS)

def S25_ann (p : List Nat) : Option LA := match p with
  | [0, 1, 0, 1, 1] => some ⟨[1], [(0, .one (.int .u64)), (5, .one .slice), (6, .one (.int .i64))]⟩
  | _ => none

def S25_nx (t : Nat) : Option (TypeId × TypeId) := none

def S25_k1 (n_ : Int) (many : Int) (l_a : Option Addr) (l_l : Nat) (l_c : Nat) (i : Int) (w : World) (R : Value → World → Prop) (B1 : (Int) × (Option Addr × Nat × Nat) × (Int) × Unit → World → Prop) : Prop :=
  (2 : Int) ≠ 0 ∧
  ∃ (t17_a : Option Addr) (t17_l : Nat) (t17_c : Nat) (w_ : World),
  (Builtin.append_ #[50, 50] 50 ⟨[(.slice (some ⟨w.heap.size, 0, none⟩) 1 1), (.slice l_a l_l l_c)]⟩).run Try.prog (w.alloc (.cells ⟨[(.bool (decide (((Int.tmod n_ 2) : Int) = 1)))]⟩ 4)) = .ok (.slice t17_a t17_l t17_c) w_ ∧
  (2 : Int) ≠ 0 ∧
  B1 ((IntKind.u64.wrap (Int.tdiv n_ 2)), (t17_a, t17_l, t17_c), (IntKind.i64.wrap (i + 1)), ()) w_

def S25_L0 (n_ : Int) (many : Int) (l_a : Option Addr) (l_l : Nat) (l_c : Nat) (i : Int) (w : World) (R : Value → World → Prop) (B1 : (Int) × (Option Addr × Nat × Nat) × (Int) × Unit → World → Prop) : Prop :=
  cond (decide ((i : Int) < many)) (
    S25_k1 n_ many l_a l_l l_c i w R B1
  ) (
    R (.slice l_a l_l l_c) w
  )

def S25 (n_ : Int) (many : Int) (w : World) (R : Value → World → Prop) : Prop :=
  ∃ (I : (Int) × (Option Addr × Nat × Nat) × (Int) × Unit → World → Prop) (μ : (Int) × (Option Addr × Nat × Nat) × (Int) × Unit → World → Nat),
  I (n_, (none, 0, 0), 0, ()) w ∧
  ∀ (J : Env) (s : (Int) × (Option Addr × Nat × Nat) × (Int) × Unit) (w' : World), I s w' →
    S25_L0 s.1 many s.2.1.1 s.2.1.2.1 s.2.1.2.2 s.2.2.1 w' R (fun s' w'' => I s' w'' ∧ μ s' w'' < μ s w')

theorem S25_eq (n_ : Int) (many : Int) (w : World) (R : Value → World → Prop) : Eng.R Try.prog ⟨cal, S25_nx⟩ 21 S25_ann [] (Try.f25.body.getD .skip) (bodyQ Try.prog #[.tmp 4] R) (argE [(.int .u64 n_), (.int .i64 many)]) w = S25 n_ many w R := by kernel_rfl
/-- A call of 'carfax/carfaxref01.Bits', by its condition. -/
theorem S25_calls {n_ : Int} {many : Int} {w : World} {R : Value → World → Prop} (hS : S25 n_ many w R) : Ret Try.prog 25 [(.int .u64 n_), (.int .i64 many)] w R :=
  R_calls (C := ⟨cal, S25_nx⟩) cal_ok follows Try.func25 (c := Try.f25.body.getD .skip) (res := #[.tmp 4]) (n := 21) (by kernel_rfl) (by kernel_rfl) (by kernel_rfl) (by kernel_rfl) ((S25_eq n_ many w R).mpr hS)

def S26_ann (p : List Nat) : Option LA := match p with
  | [0, 1, 0, 1, 1] => some ⟨[0], [(3, .one (.int .i64)), (4, .one (.int .u64))]⟩
  | [0, 1, 0, 1, 1, 1, 1] => some ⟨[0, 3], [(5, .one .slice), (6, .one (.int .i64))]⟩
  | _ => none

def S26_nx (t : Nat) : Option (TypeId × TypeId) := none

def S26_k1 (n_ : Int) (k : Int) (x : Int) (w : World) (R : Value → World → Prop) (B1 : (Int) × (Int) × Unit → World → Prop) : Prop :=
  (2 : Int) ≠ 0 ∧
  B1 ((IntKind.i64.wrap (k + 1)), (IntKind.u64.wrap (Int.tdiv x 2)), ()) w

def S26_k4 (n_ : Int) (k : Int) (l_a : Option Addr) (l_l : Nat) (l_c : Nat) (i : Int) (w : World) (R : Value → World → Prop) (B1 : (Option Addr × Nat × Nat) × (Int) × Unit → World → Prop) : Prop :=
  ∃ (t22_a : Option Addr) (t22_l : Nat) (t22_c : Nat) (w_ : World),
  (Builtin.append_ #[50, 50] 50 ⟨[(.slice l_a l_l l_c), (.slice (some ⟨w.heap.size, 0, none⟩) 1 1)]⟩).run Try.prog (w.alloc (.cells ⟨[(.bool false)]⟩ 4)) = .ok (.slice t22_a t22_l t22_c) w_ ∧
  B1 ((t22_a, t22_l, t22_c), (IntKind.i64.wrap (i + 1)), ()) w_

def S26_k5 (n_ : Int) (k : Int) (l_a : Option Addr) (l_l : Nat) (l_c : Nat) (w : World) (R : Value → World → Prop) : Prop :=
  Calls Try.prog 25 ⟨[(.int .u64 (IntKind.u64.wrap (n_ + 1))), (.int .i64 (IntKind.i64.wrap (k + 1)))]⟩ w fun e w_ =>
    ∃ (t28_a : Option Addr) (t28_l : Nat) (t28_c : Nat),
    e = .returned (.slice t28_a t28_l t28_c) ∧
    ∃ (t29_a : Option Addr) (t29_l : Nat) (t29_c : Nat) (w__1 : World),
    (Builtin.append_ #[50, 50] 50 ⟨[(.slice l_a l_l l_c), (.slice t28_a t28_l t28_c)]⟩).run Try.prog w_ = .ok (.slice t29_a t29_l t29_c) w__1 ∧
    R (.slice t29_a t29_l t29_c) w__1

def S26_L3 (n_ : Int) (k : Int) (l_a : Option Addr) (l_l : Nat) (l_c : Nat) (i : Int) (w : World) (R : Value → World → Prop) (B1 : (Option Addr × Nat × Nat) × (Int) × Unit → World → Prop) : Prop :=
  cond (decide ((i : Int) < k)) (
    S26_k4 n_ k l_a l_l l_c i w R B1
  ) (
    S26_k5 n_ k l_a l_l l_c w R
  )

def S26_k2 (n_ : Int) (k : Int) (w : World) (R : Value → World → Prop) : Prop :=
  ∃ (I : (Option Addr × Nat × Nat) × (Int) × Unit → World → Prop) (μ : (Option Addr × Nat × Nat) × (Int) × Unit → World → Nat),
  I ((none, 0, 0), 0, ()) w ∧
  ∀ (J : Env) (s : (Option Addr × Nat × Nat) × (Int) × Unit) (w' : World), I s w' →
    S26_L3 n_ k s.1.1 s.1.2.1 s.1.2.2 s.2.1 w' R (fun s' w'' => I s' w'' ∧ μ s' w'' < μ s w')

def S26_L0 (n_ : Int) (k : Int) (x : Int) (w : World) (R : Value → World → Prop) (B1 : (Int) × (Int) × Unit → World → Prop) : Prop :=
  cond (decide ((1 : Int) < x)) (
    S26_k1 n_ k x w R B1
  ) (
    S26_k2 n_ k w R
  )

def S26 (n_ : Int) (w : World) (R : Value → World → Prop) : Prop :=
  ∃ (I : (Int) × (Int) × Unit → World → Prop) (μ : (Int) × (Int) × Unit → World → Nat),
  I (0, (IntKind.u64.wrap (n_ + 1)), ()) w ∧
  ∀ (J : Env) (s : (Int) × (Int) × Unit) (w' : World), I s w' →
    S26_L0 n_ s.1 s.2.1 w' R (fun s' w'' => I s' w'' ∧ μ s' w'' < μ s w')

theorem S26_eq (n_ : Int) (w : World) (R : Value → World → Prop) : Eng.R Try.prog ⟨cal, S26_nx⟩ 31 S26_ann [] (Try.f26.body.getD .skip) (bodyQ Try.prog #[.tmp 2] R) (argE [(.int .u64 n_)]) w = S26 n_ w R := by kernel_rfl
/-- A call of 'carfax/carfaxref01.Count', by its condition. -/
theorem S26_calls {n_ : Int} {w : World} {R : Value → World → Prop} (hS : S26 n_ w R) : Ret Try.prog 26 [(.int .u64 n_)] w R :=
  R_calls (C := ⟨cal, S26_nx⟩) cal_ok follows Try.func26 (c := Try.f26.body.getD .skip) (res := #[.tmp 2]) (n := 31) (by kernel_rfl) (by kernel_rfl) (by kernel_rfl) (by kernel_rfl) ((S26_eq n_ w R).mpr hS)

def S27_ann (p : List Nat) : Option LA := match p with
  | [0, 1, 0, 1, 1] => some ⟨[0], [(3, .one .slice), (4, .one (.int .i64))]⟩
  | [0, 1, 0, 1, 0, 1, 1, 0, 0, 1, 0, 0, 1, 0, 1, 1] => some ⟨[0, 3, 4], [(5, .one (.int .u8)), (6, .one (.int .i64))]⟩
  | _ => none

def S27_nx (t : Nat) : Option (TypeId × TypeId) := none

def S27_k4 (l_a : Option Addr) (l_l : Nat) (l_c : Nat) (b_a : Option Addr) (b_l : Nat) (b_c : Nat) (i : Int) (p : Int) (k : Int) (w : World) (R : Value → World → Prop) (B1 : (Option Addr × Nat × Nat) × (Int) × Unit → World → Prop) (B2 : (Int) × (Int) × Unit → World → Prop) : Prop :=
  (2 : Int) ≠ 0 ∧
  B2 ((IntKind.u8.wrap (Int.tdiv p 2)), (IntKind.i64.wrap (k + 1)), ()) w

def S27_k5 (l_a : Option Addr) (l_l : Nat) (l_c : Nat) (b_a : Option Addr) (b_l : Nat) (b_c : Nat) (i : Int) (p : Int) (w : World) (R : Value → World → Prop) (B1 : (Option Addr × Nat × Nat) × (Int) × Unit → World → Prop) : Prop :=
  (8 : Int) ≠ 0 ∧
  (8 : Int) ≠ 0 ∧
  ∃ (t37 : Addr),
  b_a = some t37 ∧
  0 ≤ ((IntKind.i64.wrap (Int.tdiv i 8)) : Int) ∧
  ((IntKind.i64.wrap (Int.tdiv i 8)) : Int) < ((b_l : Nat) : Int) ∧
  ∃ (t38 : Int),
  w.cell? (t37.add (Int.toNat (IntKind.i64.wrap (Int.tdiv i 8)) * 1)) = some (.int .u8 t38) ∧
  ∃ (t41 : Addr),
  b_a = some t41 ∧
  0 ≤ ((IntKind.i64.wrap (Int.tdiv i 8)) : Int) ∧
  ((IntKind.i64.wrap (Int.tdiv i 8)) : Int) < ((b_l : Nat) : Int) ∧
  (∃ u, w.cell? (t41.add (Int.toNat (IntKind.i64.wrap (Int.tdiv i 8)) * 1)) = some u) ∧
  w.frozen? (t41.add (Int.toNat (IntKind.i64.wrap (Int.tdiv i 8)) * 1)) = false ∧
  B1 ((b_a, b_l, b_c), (IntKind.i64.wrap (i + 1)), ()) (w.setCell (t41.add (Int.toNat (IntKind.i64.wrap (Int.tdiv i 8)) * 1)) (.int .u8 (IntKind.u8.wrap (t38 + p))))

def S27_L3 (l_a : Option Addr) (l_l : Nat) (l_c : Nat) (b_a : Option Addr) (b_l : Nat) (b_c : Nat) (i : Int) (p : Int) (k : Int) (w : World) (R : Value → World → Prop) (B1 : (Option Addr × Nat × Nat) × (Int) × Unit → World → Prop) (B2 : (Int) × (Int) × Unit → World → Prop) : Prop :=
  (8 : Int) ≠ 0 ∧
  cond (decide ((k : Int) < (Int.tmod i 8))) (
    S27_k4 l_a l_l l_c b_a b_l b_c i p k w R B1 B2
  ) (
    S27_k5 l_a l_l l_c b_a b_l b_c i p w R B1
  )

def S27_k2 (l_a : Option Addr) (l_l : Nat) (l_c : Nat) (b_a : Option Addr) (b_l : Nat) (b_c : Nat) (i : Int) (w : World) (R : Value → World → Prop) (B1 : (Option Addr × Nat × Nat) × (Int) × Unit → World → Prop) : Prop :=
  ∃ (t21 : Addr),
  l_a = some t21 ∧
  0 ≤ (i : Int) ∧
  (i : Int) < ((l_l : Nat) : Int) ∧
  ∃ (t22 : Bool),
  w.cell? (t21.add (Int.toNat i * 1)) = some (.bool t22) ∧
  cond t22 (
    ∃ (I : (Int) × (Int) × Unit → World → Prop) (μ : (Int) × (Int) × Unit → World → Nat),
    I (128, 0, ()) w ∧
    ∀ (J : Env) (s : (Int) × (Int) × Unit) (w' : World), I s w' →
      S27_L3 l_a l_l l_c b_a b_l b_c i s.1 s.2.1 w' R B1 (fun s' w'' => I s' w'' ∧ μ s' w'' < μ s w')
  ) (
    B1 ((b_a, b_l, b_c), (IntKind.i64.wrap (i + 1)), ()) w
  )

def S27_k1 (l_a : Option Addr) (l_l : Nat) (l_c : Nat) (b_a : Option Addr) (b_l : Nat) (b_c : Nat) (i : Int) (w : World) (R : Value → World → Prop) (B1 : (Option Addr × Nat × Nat) × (Int) × Unit → World → Prop) : Prop :=
  (8 : Int) ≠ 0 ∧
  cond (decide (((Int.tmod i 8) : Int) = 0)) (
    ∃ (t18_a : Option Addr) (t18_l : Nat) (t18_c : Nat) (w_ : World),
    (Builtin.append_ #[24, 24] 24 ⟨[(.slice b_a b_l b_c), (.slice (some ⟨w.heap.size, 0, none⟩) 1 1)]⟩).run Try.prog (w.alloc (.cells ⟨[(.int .u8 0)]⟩ 5)) = .ok (.slice t18_a t18_l t18_c) w_ ∧
    S27_k2 l_a l_l l_c t18_a t18_l t18_c i w_ R B1
  ) (
    S27_k2 l_a l_l l_c b_a b_l b_c i w R B1
  )

def S27_L0 (l_a : Option Addr) (l_l : Nat) (l_c : Nat) (b_a : Option Addr) (b_l : Nat) (b_c : Nat) (i : Int) (w : World) (R : Value → World → Prop) (B1 : (Option Addr × Nat × Nat) × (Int) × Unit → World → Prop) : Prop :=
  cond (decide ((i : Int) < ((l_l : Nat) : Int))) (
    S27_k1 l_a l_l l_c b_a b_l b_c i w R B1
  ) (
    R (.slice b_a b_l b_c) w
  )

def S27 (l_a : Option Addr) (l_l : Nat) (l_c : Nat) (w : World) (R : Value → World → Prop) : Prop :=
  ∃ (I : (Option Addr × Nat × Nat) × (Int) × Unit → World → Prop) (μ : (Option Addr × Nat × Nat) × (Int) × Unit → World → Nat),
  I ((none, 0, 0), 0, ()) w ∧
  ∀ (J : Env) (s : (Option Addr × Nat × Nat) × (Int) × Unit) (w' : World), I s w' →
    S27_L0 l_a l_l l_c s.1.1 s.1.2.1 s.1.2.2 s.2.1 w' R (fun s' w'' => I s' w'' ∧ μ s' w'' < μ s w')

theorem S27_eq (l_a : Option Addr) (l_l : Nat) (l_c : Nat) (w : World) (R : Value → World → Prop) : Eng.R Try.prog ⟨cal, S27_nx⟩ 43 S27_ann [] (Try.f27.body.getD .skip) (bodyQ Try.prog #[.tmp 2] R) (argE [(.slice l_a l_l l_c)]) w = S27 l_a l_l l_c w R := by kernel_rfl
/-- A call of 'carfax/carfaxref01.Bytes', by its condition. -/
theorem S27_calls {l_a : Option Addr} {l_l : Nat} {l_c : Nat} {w : World} {R : Value → World → Prop} (hS : S27 l_a l_l l_c w R) : Ret Try.prog 27 [(.slice l_a l_l l_c)] w R :=
  R_calls (C := ⟨cal, S27_nx⟩) cal_ok follows Try.func27 (c := Try.f27.body.getD .skip) (res := #[.tmp 2]) (n := 43) (by kernel_rfl) (by kernel_rfl) (by kernel_rfl) (by kernel_rfl) ((S27_eq l_a l_l l_c w R).mpr hS)

def S28_ann (p : List Nat) : Option LA :=
  none

def S28_nx (t : Nat) : Option (TypeId × TypeId) := none

def S28 (n_ : Int) (width : Int) (w : World) (R : Value → World → Prop) : Prop :=
  cond (decide ((0 : Int) ≤ n_)) (
    0 ≤ (width : Int) ∧
    R (.bool (decide ((n_ : Int) < (IntKind.i64.wrap (1 * 2 ^ (min (Int.toNat width) (IntKind.i64.bits))))))) w
  ) (
    R (.bool false) w
  )

theorem S28_eq (n_ : Int) (width : Int) (w : World) (R : Value → World → Prop) : Eng.R Try.prog ⟨cal, S28_nx⟩ 13 S28_ann [] (Try.f28.body.getD .skip) (bodyQ Try.prog #[.tmp 4] R) (argE [(.int .i64 n_), (.int .i64 width)]) w = S28 n_ width w R := by kernel_rfl
/-- A call of 'carfax/record.fits', by its condition. -/
theorem S28_calls {n_ : Int} {width : Int} {w : World} {R : Value → World → Prop} (hS : S28 n_ width w R) : Ret Try.prog 28 [(.int .i64 n_), (.int .i64 width)] w R :=
  R_calls (C := ⟨cal, S28_nx⟩) cal_ok follows Try.func28 (c := Try.f28.body.getD .skip) (res := #[.tmp 4]) (n := 13) (by kernel_rfl) (by kernel_rfl) (by kernel_rfl) (by kernel_rfl) ((S28_eq n_ width w R).mpr hS)

def S29_ann (p : List Nat) : Option LA :=
  none

def S29_nx (t : Nat) : Option (TypeId × TypeId) := none

def S29 (n_ : Int) (most : Int) (w : World) (R : Value → World → Prop) : Prop :=
  cond (decide ((0 : Int) ≤ n_)) (
    R (.bool (decide ((n_ : Int) ≤ most))) w
  ) (
    R (.bool false) w
  )

theorem S29_eq (n_ : Int) (most : Int) (w : World) (R : Value → World → Prop) : Eng.R Try.prog ⟨cal, S29_nx⟩ 12 S29_ann [] (Try.f29.body.getD .skip) (bodyQ Try.prog #[.tmp 4] R) (argE [(.int .i64 n_), (.int .i64 most)]) w = S29 n_ most w R := by kernel_rfl
/-- A call of 'carfax/carfaxref17.in', by its condition. -/
theorem S29_calls {n_ : Int} {most : Int} {w : World} {R : Value → World → Prop} (hS : S29 n_ most w R) : Ret Try.prog 29 [(.int .i64 n_), (.int .i64 most)] w R :=
  R_calls (C := ⟨cal, S29_nx⟩) cal_ok follows Try.func29 (c := Try.f29.body.getD .skip) (res := #[.tmp 4]) (n := 12) (by kernel_rfl) (by kernel_rfl) (by kernel_rfl) (by kernel_rfl) ((S29_eq n_ most w R).mpr hS)

def S30_ann (p : List Nat) : Option LA :=
  none

def S30_nx (t : Nat) : Option (TypeId × TypeId) := none

def S30 (x_0 : Int) (x_1 : Int) (x_2 : Int) (w : World) (R : Value → World → Prop) : Prop :=
  ∃ (t4 : Int),
  (w.alloc (.cells ⟨[(.int .u8 x_0), (.int .i64 x_1), (.int .i64 x_2)]⟩ 31)).cell? ⟨w.heap.size, 0, none⟩ = some (.int .u8 t4) ∧
  cond (decide ((1 : Int) ≤ t4)) (
    ∃ (t8 : Int),
    (w.alloc (.cells ⟨[(.int .u8 x_0), (.int .i64 x_1), (.int .i64 x_2)]⟩ 31)).cell? ⟨w.heap.size, 0, none⟩ = some (.int .u8 t8) ∧
    cond (decide ((t8 : Int) ≤ 3)) (
      ∃ (t13 : Int),
      (w.alloc (.cells ⟨[(.int .u8 x_0), (.int .i64 x_1), (.int .i64 x_2)]⟩ 31)).cell? ⟨w.heap.size, 1, none⟩ = some (.int .i64 t13) ∧
      Calls Try.prog 28 ⟨[(.int .i64 t13), (.int .i64 8)]⟩ (w.alloc (.cells ⟨[(.int .u8 x_0), (.int .i64 x_1), (.int .i64 x_2)]⟩ 31)) fun e w_ =>
        ∃ (t14 : Bool),
        e = .returned (.bool t14) ∧
        cond t14 (
          ∃ (t18 : Int),
          w_.cell? ⟨w.heap.size, 2, none⟩ = some (.int .i64 t18) ∧
          Calls Try.prog 28 ⟨[(.int .i64 t18), (.int .i64 6)]⟩ w_ fun e w__1 =>
            ∃ (t19 : Bool),
            e = .returned (.bool t19) ∧
            cond t19 (
              ∃ (t23 : Int),
              w__1.cell? ⟨w.heap.size, 0, none⟩ = some (.int .u8 t23) ∧
              cond (!decide ((t23 : Int) = 1)) (
                R (.bool true) w__1
              ) (
                ∃ (t27 : Int),
                w__1.cell? ⟨w.heap.size, 2, none⟩ = some (.int .i64 t27) ∧
                R (.bool (decide ((t27 : Int) = 0))) w__1
              )
            ) (
              R (.bool false) w__1
            )
        ) (
          R (.bool false) w_
        )
    ) (
      R (.bool false) (w.alloc (.cells ⟨[(.int .u8 x_0), (.int .i64 x_1), (.int .i64 x_2)]⟩ 31))
    )
  ) (
    R (.bool false) (w.alloc (.cells ⟨[(.int .u8 x_0), (.int .i64 x_1), (.int .i64 x_2)]⟩ 31))
  )

theorem S30_eq (x_0 : Int) (x_1 : Int) (x_2 : Int) (w : World) (R : Value → World → Prop) : Eng.R Try.prog ⟨cal, S30_nx⟩ 31 S30_ann [] (Try.f30.body.getD .skip) (bodyQ Try.prog #[.tmp 2] R) (argE [(.agg ⟨[(.int .u8 x_0), (.int .i64 x_1), (.int .i64 x_2)]⟩)]) w = S30 x_0 x_1 x_2 w R := by kernel_rfl
/-- A call of 'carfax/record.may', by its condition. -/
theorem S30_calls {x_0 : Int} {x_1 : Int} {x_2 : Int} {w : World} {R : Value → World → Prop} (hS : S30 x_0 x_1 x_2 w R) : Ret Try.prog 30 [(.agg ⟨[(.int .u8 x_0), (.int .i64 x_1), (.int .i64 x_2)]⟩)] w R :=
  R_calls (C := ⟨cal, S30_nx⟩) cal_ok follows Try.func30 (c := Try.f30.body.getD .skip) (res := #[.tmp 2]) (n := 31) (by kernel_rfl) (by kernel_rfl) (by kernel_rfl) (by kernel_rfl) ((S30_eq x_0 x_1 x_2 w R).mpr hS)

def S31_ann (p : List Nat) : Option LA :=
  none

def S31_nx (t : Nat) : Option (TypeId × TypeId) := none

def S31 (b_a : Option Addr) (b_l : Nat) (b_c : Nat) (w : World) (R : Value → World → Prop) : Prop :=
  ∃ (t4_a : Option Addr) (t4_l : Nat) (t4_c : Nat) (w_ : World),
  (Builtin.append_ #[24, 24] 24 ⟨[(.slice none 0 0), (.slice b_a b_l b_c)]⟩).run Try.prog w = .ok (.slice t4_a t4_l t4_c) w_ ∧
  R (.pointer (some ⟨w_.heap.size, 0, none⟩)) (w_.alloc (.cells ⟨[(.slice t4_a t4_l t4_c), (.int .i64 0), (.int .i64 0)]⟩ 69))

theorem S31_eq (b_a : Option Addr) (b_l : Nat) (b_c : Nat) (w : World) (R : Value → World → Prop) : Eng.R Try.prog ⟨cal, S31_nx⟩ 7 S31_ann [] (Try.f31.body.getD .skip) (bodyQ Try.prog #[.tmp 2] R) (argE [(.slice b_a b_l b_c)]) w = S31 b_a b_l b_c w R := by kernel_rfl
/-- A call of 'carfax/bits.NewReader', by its condition. -/
theorem S31_calls {b_a : Option Addr} {b_l : Nat} {b_c : Nat} {w : World} {R : Value → World → Prop} (hS : S31 b_a b_l b_c w R) : Ret Try.prog 31 [(.slice b_a b_l b_c)] w R :=
  R_calls (C := ⟨cal, S31_nx⟩) cal_ok follows Try.func31 (c := Try.f31.body.getD .skip) (res := #[.tmp 2]) (n := 7) (by kernel_rfl) (by kernel_rfl) (by kernel_rfl) (by kernel_rfl) ((S31_eq b_a b_l b_c w R).mpr hS)

def S32_ann (p : List Nat) : Option LA := match p with
  | [0, 1, 0, 1, 1, 1] => some ⟨[0, 34], [(5, .one (.int .u64)), (35, .one (.int .i64))]⟩
  | _ => none

def S32_nx (t : Nat) : Option (TypeId × TypeId) := none

def S32_k5 (r : Option Addr) (n_ : Int) (t34 : Int) (t35 : Int) (w : World) (R : Value → World → Prop) (B1 : (Int) × (Int) × Unit → World → Prop) : Prop :=
  ∃ (t44 : Addr),
  r = some t44 ∧
  ∃ (t46 : Int),
  w.cell? (t44.add 1) = some (.int .i64 t46) ∧
  ∃ (t48 : Addr),
  r = some t48 ∧
  (∃ u, w.cell? (t48.add 1) = some u) ∧
  w.frozen? (t48.add 1) = false ∧
  B1 (n_, (IntKind.i64.wrap (t35 + 1)), ()) (w.setCell (t48.add 1) (.int .i64 (IntKind.i64.wrap (t46 + 1))))

def S32_k4 (r : Option Addr) (n_ : Int) (t34 : Int) (t35 : Int) (w : World) (R : Value → World → Prop) (B1 : (Int) × (Int) × Unit → World → Prop) : Prop :=
  0 ≤ (1 : Int) ∧
  Calls Try.prog 43 ⟨[(.pointer r), (.int .i64 0)]⟩ w fun e w_ =>
    ∃ (t40 : Bool),
    e = .returned (.bool t40) ∧
    cond t40 (
      S32_k5 r (bitsI .or .u64 (IntKind.u64.wrap (n_ * 2 ^ (min (Int.toNat 1) (IntKind.u64.bits)))) 1) t34 t35 w_ R B1
    ) (
      S32_k5 r (IntKind.u64.wrap (n_ * 2 ^ (min (Int.toNat 1) (IntKind.u64.bits)))) t34 t35 w_ R B1
    )

def S32_L3 (r : Option Addr) (n_ : Int) (t34 : Int) (t35 : Int) (w : World) (R : Value → World → Prop) (B1 : (Int) × (Int) × Unit → World → Prop) : Prop :=
  cond (decide ((t35 : Int) < t34)) (
    S32_k4 r n_ t34 t35 w R B1
  ) (
    R (.int .u64 n_) w
  )

def S32_k2 (r : Option Addr) (many : Int) (w : World) (R : Value → World → Prop) : Prop :=
  ∃ (I : (Int) × (Int) × Unit → World → Prop) (μ : (Int) × (Int) × Unit → World → Nat),
  I (0, 0, ()) w ∧
  ∀ (J : Env) (s : (Int) × (Int) × Unit) (w' : World), I s w' →
    S32_L3 r s.1 many s.2.1 w' R (fun s' w'' => I s' w'' ∧ μ s' w'' < μ s w')

def S32_k1 (r : Option Addr) (many : Int) (t16 : Bool) (w : World) (R : Value → World → Prop) : Prop :=
  cond t16 (
    ∃ (t24 : Addr),
    r = some t24 ∧
    (∃ u, w.cell? (t24.add 2) = some u) ∧
    w.frozen? (t24.add 2) = false ∧
    R (.int .u64 0) (w.setCell (t24.add 2) (.int .i64 1))
  ) (
    Calls Try.prog 34 ⟨[(.pointer r)]⟩ w fun e w_ =>
      ∃ (t29 : Int),
      e = .returned (.int .i64 t29) ∧
      cond (decide ((t29 : Int) < many)) (
        ∃ (t32 : Addr),
        r = some t32 ∧
        (∃ u, w_.cell? (t32.add 2) = some u) ∧
        w_.frozen? (t32.add 2) = false ∧
        R (.int .u64 0) (w_.setCell (t32.add 2) (.int .i64 10))
      ) (
        S32_k2 r many w_ R
      )
  )

def S32_k0 (r : Option Addr) (many : Int) (t6 : Bool) (w : World) (R : Value → World → Prop) : Prop :=
  cond t6 (
    R (.int .u64 0) w
  ) (
    cond (decide ((many : Int) < 0)) (
      S32_k1 r many true w R
    ) (
      S32_k1 r many (decide ((64 : Int) < many)) w R
    )
  )

def S32 (r : Option Addr) (many : Int) (w : World) (R : Value → World → Prop) : Prop :=
  cond (Option.isNone r) (
    S32_k0 r many true w R
  ) (
    ∃ (t11 : Addr),
    r = some t11 ∧
    ∃ (t13 : Int),
    w.cell? (t11.add 2) = some (.int .i64 t13) ∧
    S32_k0 r many (!decide ((t13 : Int) = 0)) w R
  )

theorem S32_eq (r : Option Addr) (many : Int) (w : World) (R : Value → World → Prop) : Eng.R Try.prog ⟨cal, S32_nx⟩ 52 S32_ann [] (Try.f32.body.getD .skip) (bodyQ Try.prog #[.tmp 4] R) (argE [(.pointer r), (.int .i64 many)]) w = S32 r many w R := by kernel_rfl
/-- A call of '(*carfax/bits.Reader).Get', by its condition. -/
theorem S32_calls {r : Option Addr} {many : Int} {w : World} {R : Value → World → Prop} (hS : S32 r many w R) : Ret Try.prog 32 [(.pointer r), (.int .i64 many)] w R :=
  R_calls (C := ⟨cal, S32_nx⟩) cal_ok follows Try.func32 (c := Try.f32.body.getD .skip) (res := #[.tmp 4]) (n := 52) (by kernel_rfl) (by kernel_rfl) (by kernel_rfl) (by kernel_rfl) ((S32_eq r many w R).mpr hS)

def S33_ann (p : List Nat) : Option LA := match p with
  | [0, 1, 0, 1, 1, 1, 1, 1] => some ⟨[0, 20], [(21, .one (.int .i64))]⟩
  | _ => none

def S33_nx (t : Nat) : Option (TypeId × TypeId) := none

def S33_k4 (r : Option Addr) (t20 : Int) (t21 : Int) (w : World) (R : Value → World → Prop) (B1 : (Int) × Unit → World → Prop) : Prop :=
  Calls Try.prog 43 ⟨[(.pointer r), (.int .i64 t21)]⟩ w fun e w_ =>
    ∃ (t26 : Bool),
    e = .returned (.bool t26) ∧
    cond t26 (
      R (.int .i64 11) w_
    ) (
      B1 ((IntKind.i64.wrap (t21 + 1)), ()) w_
    )

def S33_L3 (r : Option Addr) (t20 : Int) (t21 : Int) (w : World) (R : Value → World → Prop) (B1 : (Int) × Unit → World → Prop) : Prop :=
  cond (decide ((t21 : Int) < t20)) (
    S33_k4 r t20 t21 w R B1
  ) (
    R (.int .i64 0) w
  )

def S33_k2 (r : Option Addr) (left : Int) (w : World) (R : Value → World → Prop) : Prop :=
  ∃ (I : (Int) × Unit → World → Prop) (μ : (Int) × Unit → World → Nat),
  I (0, ()) w ∧
  ∀ (J : Env) (s : (Int) × Unit) (w' : World), I s w' →
    S33_L3 r left s.1 w' R (fun s' w'' => I s' w'' ∧ μ s' w'' < μ s w')

def S33_k1 (r : Option Addr) (w : World) (R : Value → World → Prop) : Prop :=
  Calls Try.prog 34 ⟨[(.pointer r)]⟩ w fun e w_ =>
    ∃ (t17 : Int),
    e = .returned (.int .i64 t17) ∧
    cond (decide ((7 : Int) < t17)) (
      R (.int .i64 11) w_
    ) (
      S33_k2 r t17 w_ R
    )

def S33_k0 (r : Option Addr) (w : World) (R : Value → World → Prop) : Prop :=
  ∃ (t8 : Addr),
  r = some t8 ∧
  ∃ (t10 : Int),
  w.cell? (t8.add 2) = some (.int .i64 t10) ∧
  cond (!decide ((t10 : Int) = 0)) (
    ∃ (t13 : Addr),
    r = some t13 ∧
    ∃ (t15 : Int),
    w.cell? (t13.add 2) = some (.int .i64 t15) ∧
    R (.int .i64 t15) w
  ) (
    S33_k1 r w R
  )

def S33 (r : Option Addr) (w : World) (R : Value → World → Prop) : Prop :=
  cond (Option.isNone r) (
    R (.int .i64 0) w
  ) (
    S33_k0 r w R
  )

theorem S33_eq (r : Option Addr) (w : World) (R : Value → World → Prop) : Eng.R Try.prog ⟨cal, S33_nx⟩ 28 S33_ann [] (Try.f33.body.getD .skip) (bodyQ Try.prog #[.tmp 2] R) (argE [(.pointer r)]) w = S33 r w R := by kernel_rfl
/-- A call of '(*carfax/bits.Reader).End', by its condition. -/
theorem S33_calls {r : Option Addr} {w : World} {R : Value → World → Prop} (hS : S33 r w R) : Ret Try.prog 33 [(.pointer r)] w R :=
  R_calls (C := ⟨cal, S33_nx⟩) cal_ok follows Try.func33 (c := Try.f33.body.getD .skip) (res := #[.tmp 2]) (n := 28) (by kernel_rfl) (by kernel_rfl) (by kernel_rfl) (by kernel_rfl) ((S33_eq r w R).mpr hS)

def S34_ann (p : List Nat) : Option LA :=
  none

def S34_nx (t : Nat) : Option (TypeId × TypeId) := none

def S34_k0 (r : Option Addr) (w : World) (R : Value → World → Prop) : Prop :=
  ∃ (t6 : Addr),
  r = some t6 ∧
  ∃ (t12 : Addr),
  r = some t12 ∧
  ∃ (t8_a : Option Addr) (t8_l : Nat) (t8_c : Nat),
  w.drew.cell? t6 = some (.slice t8_a t8_l t8_c) ∧
  ∃ (t14 : Int),
  w.drew.cell? (t12.add 1) = some (.int .i64 t14) ∧
  R (.int .i64 (IntKind.i64.wrap ((IntKind.i64.wrap (8 * ((t8_l : Nat) : Int))) - t14))) w.drew

def S34 (r : Option Addr) (w : World) (R : Value → World → Prop) : Prop :=
  cond (Option.isNone r) (
    R (.int .i64 0) w
  ) (
    S34_k0 r w R
  )

theorem S34_eq (r : Option Addr) (w : World) (R : Value → World → Prop) : Eng.R Try.prog ⟨cal, S34_nx⟩ 16 S34_ann [] (Try.f34.body.getD .skip) (bodyQ Try.prog #[.tmp 2] R) (argE [(.pointer r)]) w = S34 r w R := by kernel_rfl
/-- A call of '(*carfax/bits.Reader).Left', by its condition. -/
theorem S34_calls {r : Option Addr} {w : World} {R : Value → World → Prop} (hS : S34 r w R) : Ret Try.prog 34 [(.pointer r)] w R :=
  R_calls (C := ⟨cal, S34_nx⟩) cal_ok follows Try.func34 (c := Try.f34.body.getD .skip) (res := #[.tmp 2]) (n := 16) (by kernel_rfl) (by kernel_rfl) (by kernel_rfl) (by kernel_rfl) ((S34_eq r w R).mpr hS)

def S35_ann (p : List Nat) : Option LA :=
  none

def S35_nx (t : Nat) : Option (TypeId × TypeId) := none

def S35 (width : Int) (cap : Addr) (w : World) (R : Value → World → Prop) : Prop :=
  ∃ (t4 : Option Addr),
  w.cell? cap = some (.pointer t4) ∧
  Calls Try.prog 32 ⟨[(.pointer t4), (.int .i64 width)]⟩ w fun e w_ =>
    ∃ (t6 : Int),
    e = .returned (.int .u64 t6) ∧
    R (.int .i64 (IntKind.i64.wrap t6)) w_

theorem S35_eq (width : Int) (cap : Addr) (w : World) (R : Value → World → Prop) : Eng.R Try.prog ⟨cal, S35_nx⟩ 8 S35_ann [] (Try.f35.body.getD .skip) (bodyQ Try.prog #[.tmp 3] R) (argE [(.int .i64 width), (.pointer (some cap))]) w = S35 width cap w R := by kernel_rfl
/-- A call of 'carfax/record.Take$1', by its condition. -/
theorem S35_calls {width : Int} {cap : Addr} {w : World} {R : Value → World → Prop} (hS : S35 width cap w R) : Ret Try.prog 35 [(.int .i64 width), (.pointer (some cap))] w R :=
  R_calls (C := ⟨cal, S35_nx⟩) cal_ok follows Try.func35 (c := Try.f35.body.getD .skip) (res := #[.tmp 3]) (n := 8) (by kernel_rfl) (by kernel_rfl) (by kernel_rfl) (by kernel_rfl) ((S35_eq width cap w R).mpr hS)

def S36_ann (p : List Nat) : Option LA := match p with
  | [0, 0, 1, 1, 1, 1] => some ⟨[0, 3], [(4, .one (.int .i64))]⟩
  | _ => none

def S36_nx (t : Nat) : Option (TypeId × TypeId) := none

def S36_k4 (r : Option Addr) (left : Int) (k : Int) (w : World) (R : Value → World → Prop) (B1 : (Int) × Unit → World → Prop) : Prop :=
  B1 ((IntKind.i64.wrap (k + 1)), ()) w

def S36_k6 (r : Option Addr) (k : Int) (w : World) (R : Value → World → Prop) : Prop :=
  ∃ (t43 : Addr),
  r = some t43 ∧
  ∃ (t45 : Int),
  w.cell? (t43.add 1) = some (.int .i64 t45) ∧
  ∃ (t48 : Addr),
  r = some t48 ∧
  (∃ u, w.cell? (t48.add 1) = some u) ∧
  w.frozen? (t48.add 1) = false ∧
  Calls Try.prog 32 ⟨[(.pointer r), (.int .i64 (IntKind.i64.wrap (k + 1)))]⟩ (w.setCell (t48.add 1) (.int .i64 (IntKind.i64.wrap (t45 + k)))) fun e w_ =>
    ∃ (t53 : Int),
    e = .returned (.int .u64 t53) ∧
    R (.int .u64 (IntKind.u64.wrap (t53 - 1))) w_

def S36_k5 (r : Option Addr) (left : Int) (k : Int) (w : World) (R : Value → World → Prop) : Prop :=
  cond (decide ((63 : Int) < k)) (
    ∃ (t31 : Addr),
    r = some t31 ∧
    (∃ u, w.cell? (t31.add 2) = some u) ∧
    w.frozen? (t31.add 2) = false ∧
    R (.int .u64 0) (w.setCell (t31.add 2) (.int .i64 4))
  ) (
    cond (decide ((left : Int) < (IntKind.i64.wrap ((IntKind.i64.wrap (2 * k)) + 1)))) (
      ∃ (t40 : Addr),
      r = some t40 ∧
      (∃ u, w.cell? (t40.add 2) = some u) ∧
      w.frozen? (t40.add 2) = false ∧
      R (.int .u64 0) (w.setCell (t40.add 2) (.int .i64 10))
    ) (
      S36_k6 r k w R
    )
  )

def S36_k3 (r : Option Addr) (left : Int) (k : Int) (t24 : Bool) (w : World) (R : Value → World → Prop) (B1 : (Int) × Unit → World → Prop) : Prop :=
  cond t24 (
    S36_k4 r left k w R B1
  ) (
    S36_k5 r left k w R
  )

def S36_L2 (r : Option Addr) (left : Int) (k : Int) (w : World) (R : Value → World → Prop) (B1 : (Int) × Unit → World → Prop) : Prop :=
  cond (decide ((k : Int) < left)) (
    Calls Try.prog 43 ⟨[(.pointer r), (.int .i64 k)]⟩ w fun e w_ =>
      ∃ (t22 : Bool),
      e = .returned (.bool t22) ∧
      S36_k3 r left k (!t22) w_ R B1
  ) (
    S36_k3 r left k false w R B1
  )

def S36_k1 (r : Option Addr) (w : World) (R : Value → World → Prop) : Prop :=
  Calls Try.prog 34 ⟨[(.pointer r)]⟩ w fun e w_ =>
    ∃ (t15 : Int),
    e = .returned (.int .i64 t15) ∧
    ∃ (I : (Int) × Unit → World → Prop) (μ : (Int) × Unit → World → Nat),
    I (0, ()) w_ ∧
    ∀ (J : Env) (s : (Int) × Unit) (w' : World), I s w' →
      S36_L2 r t15 s.1 w' R (fun s' w'' => I s' w'' ∧ μ s' w'' < μ s w')

def S36_k0 (r : Option Addr) (t13 : Bool) (w : World) (R : Value → World → Prop) : Prop :=
  cond t13 (
    R (.int .u64 0) w
  ) (
    S36_k1 r w R
  )

def S36 (r : Option Addr) (w : World) (R : Value → World → Prop) : Prop :=
  cond (Option.isNone r) (
    S36_k0 r true w R
  ) (
    ∃ (t9 : Addr),
    r = some t9 ∧
    ∃ (t11 : Int),
    w.cell? (t9.add 2) = some (.int .i64 t11) ∧
    S36_k0 r (!decide ((t11 : Int) = 0)) w R
  )

theorem S36_eq (r : Option Addr) (w : World) (R : Value → World → Prop) : Eng.R Try.prog ⟨cal, S36_nx⟩ 55 S36_ann [] (Try.f36.body.getD .skip) (bodyQ Try.prog #[.tmp 2] R) (argE [(.pointer r)]) w = S36 r w R := by kernel_rfl
/-- A call of '(*carfax/bits.Reader).Count', by its condition. -/
theorem S36_calls {r : Option Addr} {w : World} {R : Value → World → Prop} (hS : S36 r w R) : Ret Try.prog 36 [(.pointer r)] w R :=
  R_calls (C := ⟨cal, S36_nx⟩) cal_ok follows Try.func36 (c := Try.f36.body.getD .skip) (res := #[.tmp 2]) (n := 55) (by kernel_rfl) (by kernel_rfl) (by kernel_rfl) (by kernel_rfl) ((S36_eq r w R).mpr hS)

def S37_ann (p : List Nat) : Option LA := match p with
  | [0, 1, 0, 1, 1] => some ⟨[0, 3], [(4, .one (.int .i64))]⟩
  | _ => none

def S37_nx (t : Nat) : Option (TypeId × TypeId) := none

def S37_k1 (b_a : Option Addr) (b_l : Nat) (b_c : Nat) (r : Addr) (i : Int) (w : World) (R : Value → World → Prop) (B1 : (Int) × Unit → World → Prop) : Prop :=
  ∃ (t15 : Addr),
  (some r) = some t15 ∧
  ∃ (t20 : Addr),
  b_a = some t20 ∧
  0 ≤ (i : Int) ∧
  (i : Int) < ((b_l : Nat) : Int) ∧
  ∃ (t21 : Int),
  w.drew.cell? (t20.add (Int.toNat i * 1)) = some (.int .u8 t21) ∧
  (
    ∃ (t17_a : Option Addr) (t17_l : Nat) (t17_c : Nat),
    w.drew.cell? t15 = some (.slice t17_a t17_l t17_c) ∧
    Calls Try.prog 25 ⟨[(.int .u64 (IntKind.u64.wrap t21)), (.int .i64 8)]⟩ w.drew fun e w_ =>
      ∃ (t23_a : Option Addr) (t23_l : Nat) (t23_c : Nat),
      e = .returned (.slice t23_a t23_l t23_c) ∧
      ∃ (t24_a : Option Addr) (t24_l : Nat) (t24_c : Nat) (w__1 : World),
      (Builtin.append_ #[50, 50] 50 ⟨[(.slice t17_a t17_l t17_c), (.slice t23_a t23_l t23_c)]⟩).run Try.prog w_ = .ok (.slice t24_a t24_l t24_c) w__1 ∧
      ∃ (t25 : Addr),
      (some r) = some t25 ∧
      (∃ u, w__1.cell? t25 = some u) ∧
      w__1.frozen? t25 = false ∧
      B1 ((IntKind.i64.wrap (i + 1)), ()) (w__1.setCell t25 (.slice t24_a t24_l t24_c))
  ) ∧
  (
    Calls Try.prog 25 ⟨[(.int .u64 (IntKind.u64.wrap t21)), (.int .i64 8)]⟩ w.drew fun e w__2 =>
      ∃ (t23_a_1 : Option Addr) (t23_l_1 : Nat) (t23_c_1 : Nat),
      e = .returned (.slice t23_a_1 t23_l_1 t23_c_1) ∧
      ∃ (t17_a_1 : Option Addr) (t17_l_1 : Nat) (t17_c_1 : Nat),
      w__2.cell? t15 = some (.slice t17_a_1 t17_l_1 t17_c_1) ∧
      ∃ (t24_a_1 : Option Addr) (t24_l_1 : Nat) (t24_c_1 : Nat) (w__3 : World),
      (Builtin.append_ #[50, 50] 50 ⟨[(.slice t17_a_1 t17_l_1 t17_c_1), (.slice t23_a_1 t23_l_1 t23_c_1)]⟩).run Try.prog w__2 = .ok (.slice t24_a_1 t24_l_1 t24_c_1) w__3 ∧
      ∃ (t25_1 : Addr),
      (some r) = some t25_1 ∧
      (∃ u, w__3.cell? t25_1 = some u) ∧
      w__3.frozen? t25_1 = false ∧
      B1 ((IntKind.i64.wrap (i + 1)), ()) (w__3.setCell t25_1 (.slice t24_a_1 t24_l_1 t24_c_1))
  )

def S37_L0 (b_a : Option Addr) (b_l : Nat) (b_c : Nat) (r : Addr) (i : Int) (w : World) (R : Value → World → Prop) (B1 : (Int) × Unit → World → Prop) : Prop :=
  cond (decide ((i : Int) < ((b_l : Nat) : Int))) (
    S37_k1 b_a b_l b_c r i w R B1
  ) (
    R (.pointer (some r)) w
  )

def S37 (b_a : Option Addr) (b_l : Nat) (b_c : Nat) (w : World) (R : Value → World → Prop) : Prop :=
  ∃ (I : (Int) × Unit → World → Prop) (μ : (Int) × Unit → World → Nat),
  I (0, ()) (w.alloc (.cells ⟨[(.slice none 0 0), (.int .i64 0), (.int .i64 0)]⟩ 73)) ∧
  ∀ (J : Env) (s : (Int) × Unit) (w' : World), I s w' →
    S37_L0 b_a b_l b_c ⟨w.heap.size, 0, none⟩ s.1 w' R (fun s' w'' => I s' w'' ∧ μ s' w'' < μ s w')

theorem S37_eq (b_a : Option Addr) (b_l : Nat) (b_c : Nat) (w : World) (R : Value → World → Prop) : Eng.R Try.prog ⟨cal, S37_nx⟩ 28 S37_ann [] (Try.f37.body.getD .skip) (bodyQ Try.prog #[.tmp 2] R) (argE [(.slice b_a b_l b_c)]) w = S37 b_a b_l b_c w R := by kernel_rfl
/-- A call of 'carfax/carfaxref01.Of', by its condition. -/
theorem S37_calls {b_a : Option Addr} {b_l : Nat} {b_c : Nat} {w : World} {R : Value → World → Prop} (hS : S37 b_a b_l b_c w R) : Ret Try.prog 37 [(.slice b_a b_l b_c)] w R :=
  R_calls (C := ⟨cal, S37_nx⟩) cal_ok follows Try.func37 (c := Try.f37.body.getD .skip) (res := #[.tmp 2]) (n := 28) (by kernel_rfl) (by kernel_rfl) (by kernel_rfl) (by kernel_rfl) ((S37_eq b_a b_l b_c w R).mpr hS)

def S38_ann (p : List Nat) : Option LA := match p with
  | [0, 1, 0, 1, 1, 1, 1, 1] => some ⟨[0, 1], [(5, .one (.int .u64)), (6, .one (.int .i64))]⟩
  | _ => none

def S38_nx (t : Nat) : Option (TypeId × TypeId) := none

def S38_k7 (r : Option Addr) (many : Int) (n_ : Int) (i : Int) (t68 : Bool) (w : World) (R : Value → World → Prop) (B1 : (Int) × (Int) × Unit → World → Prop) : Prop :=
  cond t68 (
    B1 ((IntKind.u64.wrap (n_ + 1)), (IntKind.i64.wrap (i + 1)), ()) w
  ) (
    B1 (n_, (IntKind.i64.wrap (i + 1)), ()) w
  )

def S38_k6 (r : Option Addr) (many : Int) (n_ : Int) (i : Int) (w : World) (R : Value → World → Prop) (B1 : (Int) × (Int) × Unit → World → Prop) : Prop :=
  ∃ (t58 : Addr),
  r = some t58 ∧
  ∃ (t62 : Addr),
  r = some t62 ∧
  ∃ (t64 : Int),
  w.drew.cell? (t62.add 1) = some (.int .i64 t64) ∧
  ∃ (t60_a : Option Addr) (t60_l : Nat) (t60_c : Nat),
  w.drew.cell? t58 = some (.slice t60_a t60_l t60_c) ∧
  ∃ (t67 : Addr),
  t60_a = some t67 ∧
  0 ≤ ((IntKind.i64.wrap (t64 + i)) : Int) ∧
  ((IntKind.i64.wrap (t64 + i)) : Int) < ((t60_l : Nat) : Int) ∧
  ∃ (t68 : Bool),
  w.drew.cell? (t67.add (Int.toNat (IntKind.i64.wrap (t64 + i)) * 1)) = some (.bool t68) ∧
  S38_k7 r many (IntKind.u64.wrap (n_ * 2)) i t68 w.drew R B1

def S38_k8 (r : Option Addr) (many : Int) (n_ : Int) (w : World) (R : Value → World → Prop) : Prop :=
  ∃ (t73 : Addr),
  r = some t73 ∧
  ∃ (t75 : Int),
  w.cell? (t73.add 1) = some (.int .i64 t75) ∧
  ∃ (t78 : Addr),
  r = some t78 ∧
  (∃ u, w.cell? (t78.add 1) = some u) ∧
  w.frozen? (t78.add 1) = false ∧
  R (.int .u64 n_) (w.setCell (t78.add 1) (.int .i64 (IntKind.i64.wrap (t75 + many))))

def S38_L5 (r : Option Addr) (many : Int) (n_ : Int) (i : Int) (w : World) (R : Value → World → Prop) (B1 : (Int) × (Int) × Unit → World → Prop) : Prop :=
  cond (decide ((i : Int) < many)) (
    S38_k6 r many n_ i w R B1
  ) (
    S38_k8 r many n_ w R
  )

def S38_k4 (r : Option Addr) (many : Int) (w : World) (R : Value → World → Prop) : Prop :=
  ∃ (I : (Int) × (Int) × Unit → World → Prop) (μ : (Int) × (Int) × Unit → World → Nat),
  I (0, 0, ()) w ∧
  ∀ (J : Env) (s : (Int) × (Int) × Unit) (w' : World), I s w' →
    S38_L5 r many s.1 s.2.1 w' R (fun s' w'' => I s' w'' ∧ μ s' w'' < μ s w')

def S38_k3 (r : Option Addr) (many : Int) (w : World) (R : Value → World → Prop) : Prop :=
  ∃ (t46 : Addr),
  r = some t46 ∧
  ∃ (t48 : Int),
  w.cell? (t46.add 2) = some (.int .i64 t48) ∧
  cond (!decide ((t48 : Int) = 0)) (
    R (.int .u64 0) w
  ) (
    S38_k4 r many w R
  )

def S38_k2 (r : Option Addr) (many : Int) (t41 : Bool) (w : World) (R : Value → World → Prop) : Prop :=
  cond t41 (
    ∃ (t43 : Addr),
    r = some t43 ∧
    (∃ u, w.cell? (t43.add 2) = some u) ∧
    w.frozen? (t43.add 2) = false ∧
    S38_k3 r many (w.setCell (t43.add 2) (.int .i64 10)) R
  ) (
    S38_k3 r many w R
  )

def S38_k1 (r : Option Addr) (many : Int) (w : World) (R : Value → World → Prop) : Prop :=
  ∃ (t24 : Addr),
  r = some t24 ∧
  ∃ (t26 : Int),
  w.drew.cell? (t24.add 2) = some (.int .i64 t26) ∧
  cond (decide ((t26 : Int) = 0)) (
    ∃ (t31 : Addr),
    r = some t31 ∧
    ∃ (t36 : Addr),
    r = some t36 ∧
    ∃ (t33_a : Option Addr) (t33_l : Nat) (t33_c : Nat),
    w.drew.cell? t31 = some (.slice t33_a t33_l t33_c) ∧
    ∃ (t38 : Int),
    w.drew.cell? (t36.add 1) = some (.int .i64 t38) ∧
    S38_k2 r many (decide (((IntKind.i64.wrap (((t33_l : Nat) : Int) - t38)) : Int) < many)) w.drew R
  ) (
    S38_k2 r many false w.drew R
  )

def S38_k0 (r : Option Addr) (many : Int) (t19 : Bool) (w : World) (R : Value → World → Prop) : Prop :=
  cond t19 (
    ∃ (t21 : Addr),
    r = some t21 ∧
    (∃ u, w.cell? (t21.add 2) = some u) ∧
    w.frozen? (t21.add 2) = false ∧
    S38_k1 r many (w.setCell (t21.add 2) (.int .i64 1)) R
  ) (
    S38_k1 r many w R
  )

def S38 (r : Option Addr) (many : Int) (w : World) (R : Value → World → Prop) : Prop :=
  ∃ (t8 : Addr),
  r = some t8 ∧
  ∃ (t10 : Int),
  w.cell? (t8.add 2) = some (.int .i64 t10) ∧
  cond (decide ((t10 : Int) = 0)) (
    cond (decide ((many : Int) < 0)) (
      S38_k0 r many true w R
    ) (
      S38_k0 r many (decide ((64 : Int) < many)) w R
    )
  ) (
    S38_k0 r many false w R
  )

theorem S38_eq (r : Option Addr) (many : Int) (w : World) (R : Value → World → Prop) : Eng.R Try.prog ⟨cal, S38_nx⟩ 81 S38_ann [] (Try.f38.body.getD .skip) (bodyQ Try.prog #[.tmp 4] R) (argE [(.pointer r), (.int .i64 many)]) w = S38 r many w R := by kernel_rfl
/-- A call of '(*carfax/carfaxref01.Reader).Get', by its condition. -/
theorem S38_calls {r : Option Addr} {many : Int} {w : World} {R : Value → World → Prop} (hS : S38 r many w R) : Ret Try.prog 38 [(.pointer r), (.int .i64 many)] w R :=
  R_calls (C := ⟨cal, S38_nx⟩) cal_ok follows Try.func38 (c := Try.f38.body.getD .skip) (res := #[.tmp 4]) (n := 81) (by kernel_rfl) (by kernel_rfl) (by kernel_rfl) (by kernel_rfl) ((S38_eq r many w R).mpr hS)

def S39_ann (p : List Nat) : Option LA := match p with
  | [0, 0, 1, 1, 1, 1] => some ⟨[0, 3], [(4, .one (.int .i64))]⟩
  | _ => none

def S39_nx (t : Nat) : Option (TypeId × TypeId) := none

def S39_k3 (r : Option Addr) (was : Int) (k : Int) (w : World) (R : Value → World → Prop) (B1 : (Int) × Unit → World → Prop) : Prop :=
  B1 ((IntKind.i64.wrap (k + 1)), ()) w

def S39_k5 (r : Option Addr) (was : Int) (k : Int) (w : World) (R : Value → World → Prop) : Prop :=
  ∃ (t51 : Addr),
  r = some t51 ∧
  ∃ (t53 : Int),
  w.cell? (t51.add 1) = some (.int .i64 t53) ∧
  ∃ (t56 : Addr),
  r = some t56 ∧
  (∃ u, w.cell? (t56.add 1) = some u) ∧
  w.frozen? (t56.add 1) = false ∧
  Calls Try.prog 38 ⟨[(.pointer r), (.int .i64 (IntKind.i64.wrap (k + 1)))]⟩ (w.setCell (t56.add 1) (.int .i64 (IntKind.i64.wrap (t53 + k)))) fun e w_ =>
    ∃ (t61 : Int),
    e = .returned (.int .u64 t61) ∧
    ∃ (t63 : Addr),
    r = some t63 ∧
    ∃ (t65 : Int),
    w_.cell? (t63.add 2) = some (.int .i64 t65) ∧
    cond (!decide ((t65 : Int) = 0)) (
      ∃ (t69 : Addr),
      r = some t69 ∧
      (∃ u, w_.cell? (t69.add 1) = some u) ∧
      w_.frozen? (t69.add 1) = false ∧
      R (.int .u64 0) (w_.setCell (t69.add 1) (.int .i64 was))
    ) (
      R (.int .u64 (IntKind.u64.wrap (t61 - 1))) w_
    )

def S39_k4 (r : Option Addr) (was : Int) (k : Int) (w : World) (R : Value → World → Prop) : Prop :=
  cond (decide ((63 : Int) < k)) (
    ∃ (t47 : Addr),
    r = some t47 ∧
    (∃ u, w.cell? (t47.add 2) = some u) ∧
    w.frozen? (t47.add 2) = false ∧
    R (.int .u64 0) (w.setCell (t47.add 2) (.int .i64 4))
  ) (
    S39_k5 r was k w R
  )

def S39_k2 (r : Option Addr) (was : Int) (k : Int) (t41 : Bool) (w : World) (R : Value → World → Prop) (B1 : (Int) × Unit → World → Prop) : Prop :=
  cond t41 (
    S39_k3 r was k w R B1
  ) (
    S39_k4 r was k w R
  )

def S39_L1 (r : Option Addr) (was : Int) (k : Int) (w : World) (R : Value → World → Prop) (B1 : (Int) × Unit → World → Prop) : Prop :=
  ∃ (t16 : Addr),
  r = some t16 ∧
  ∃ (t22 : Addr),
  r = some t22 ∧
  (
    ∃ (t18 : Int),
    w.drew.cell? (t16.add 1) = some (.int .i64 t18) ∧
    ∃ (t24_a : Option Addr) (t24_l : Nat) (t24_c : Nat),
    w.drew.cell? t22 = some (.slice t24_a t24_l t24_c) ∧
    cond (decide (((IntKind.i64.wrap (t18 + k)) : Int) < ((t24_l : Nat) : Int))) (
      ∃ (t29 : Addr),
      r = some t29 ∧
      ∃ (t33 : Addr),
      r = some t33 ∧
      ∃ (t35 : Int),
      w.drew.cell? (t33.add 1) = some (.int .i64 t35) ∧
      ∃ (t31_a : Option Addr) (t31_l : Nat) (t31_c : Nat),
      w.drew.cell? t29 = some (.slice t31_a t31_l t31_c) ∧
      ∃ (t38 : Addr),
      t31_a = some t38 ∧
      0 ≤ ((IntKind.i64.wrap (t35 + k)) : Int) ∧
      ((IntKind.i64.wrap (t35 + k)) : Int) < ((t31_l : Nat) : Int) ∧
      ∃ (t39 : Bool),
      w.drew.cell? (t38.add (Int.toNat (IntKind.i64.wrap (t35 + k)) * 1)) = some (.bool t39) ∧
      S39_k2 r was k (!t39) w.drew R B1
    ) (
      S39_k2 r was k false w.drew R B1
    )
  ) ∧
  (
    ∃ (t24_a_1 : Option Addr) (t24_l_1 : Nat) (t24_c_1 : Nat),
    w.drew.cell? t22 = some (.slice t24_a_1 t24_l_1 t24_c_1) ∧
    ∃ (t18_1 : Int),
    w.drew.cell? (t16.add 1) = some (.int .i64 t18_1) ∧
    cond (decide (((IntKind.i64.wrap (t18_1 + k)) : Int) < ((t24_l_1 : Nat) : Int))) (
      ∃ (t29_1 : Addr),
      r = some t29_1 ∧
      ∃ (t33_1 : Addr),
      r = some t33_1 ∧
      ∃ (t35_1 : Int),
      w.drew.cell? (t33_1.add 1) = some (.int .i64 t35_1) ∧
      ∃ (t31_a_1 : Option Addr) (t31_l_1 : Nat) (t31_c_1 : Nat),
      w.drew.cell? t29_1 = some (.slice t31_a_1 t31_l_1 t31_c_1) ∧
      ∃ (t38_1 : Addr),
      t31_a_1 = some t38_1 ∧
      0 ≤ ((IntKind.i64.wrap (t35_1 + k)) : Int) ∧
      ((IntKind.i64.wrap (t35_1 + k)) : Int) < ((t31_l_1 : Nat) : Int) ∧
      ∃ (t39_1 : Bool),
      w.drew.cell? (t38_1.add (Int.toNat (IntKind.i64.wrap (t35_1 + k)) * 1)) = some (.bool t39_1) ∧
      S39_k2 r was k (!t39_1) w.drew R B1
    ) (
      S39_k2 r was k false w.drew R B1
    )
  )

def S39_k0 (r : Option Addr) (w : World) (R : Value → World → Prop) : Prop :=
  ∃ (t12 : Addr),
  r = some t12 ∧
  ∃ (t14 : Int),
  w.cell? (t12.add 1) = some (.int .i64 t14) ∧
  ∃ (I : (Int) × Unit → World → Prop) (μ : (Int) × Unit → World → Nat),
  I (0, ()) w ∧
  ∀ (J : Env) (s : (Int) × Unit) (w' : World), I s w' →
    S39_L1 r t14 s.1 w' R (fun s' w'' => I s' w'' ∧ μ s' w'' < μ s w')

def S39 (r : Option Addr) (w : World) (R : Value → World → Prop) : Prop :=
  ∃ (t7 : Addr),
  r = some t7 ∧
  ∃ (t9 : Int),
  w.cell? (t7.add 2) = some (.int .i64 t9) ∧
  cond (!decide ((t9 : Int) = 0)) (
    R (.int .u64 0) w
  ) (
    S39_k0 r w R
  )

theorem S39_eq (r : Option Addr) (w : World) (R : Value → World → Prop) : Eng.R Try.prog ⟨cal, S39_nx⟩ 73 S39_ann [] (Try.f39.body.getD .skip) (bodyQ Try.prog #[.tmp 2] R) (argE [(.pointer r)]) w = S39 r w R := by kernel_rfl
/-- A call of '(*carfax/carfaxref01.Reader).Count', by its condition. -/
theorem S39_calls {r : Option Addr} {w : World} {R : Value → World → Prop} (hS : S39 r w R) : Ret Try.prog 39 [(.pointer r)] w R :=
  R_calls (C := ⟨cal, S39_nx⟩) cal_ok follows Try.func39 (c := Try.f39.body.getD .skip) (res := #[.tmp 2]) (n := 73) (by kernel_rfl) (by kernel_rfl) (by kernel_rfl) (by kernel_rfl) ((S39_eq r w R).mpr hS)

def S40_ann (p : List Nat) : Option LA := match p with
  | [0, 1, 0, 1, 1, 1] => some ⟨[0], [(3, .one (.int .i64))]⟩
  | _ => none

def S40_nx (t : Nat) : Option (TypeId × TypeId) := none

def S40_k4 (r : Option Addr) (i : Int) (w : World) (R : Value → World → Prop) (B1 : (Int) × Unit → World → Prop) : Prop :=
  ∃ (t38 : Addr),
  r = some t38 ∧
  ∃ (t40_a : Option Addr) (t40_l : Nat) (t40_c : Nat),
  w.cell? t38 = some (.slice t40_a t40_l t40_c) ∧
  ∃ (t42 : Addr),
  t40_a = some t42 ∧
  0 ≤ (i : Int) ∧
  (i : Int) < ((t40_l : Nat) : Int) ∧
  ∃ (t43 : Bool),
  w.cell? (t42.add (Int.toNat i * 1)) = some (.bool t43) ∧
  cond t43 (
    R (.int .i64 11) w
  ) (
    B1 ((IntKind.i64.wrap (i + 1)), ()) w
  )

def S40_L3 (r : Option Addr) (i : Int) (w : World) (R : Value → World → Prop) (B1 : (Int) × Unit → World → Prop) : Prop :=
  ∃ (t30 : Addr),
  r = some t30 ∧
  ∃ (t32_a : Option Addr) (t32_l : Nat) (t32_c : Nat),
  w.cell? t30 = some (.slice t32_a t32_l t32_c) ∧
  cond (decide ((i : Int) < ((t32_l : Nat) : Int))) (
    S40_k4 r i w R B1
  ) (
    R (.int .i64 0) w
  )

def S40_k2 (r : Option Addr) (w : World) (R : Value → World → Prop) : Prop :=
  ∃ (t25 : Addr),
  r = some t25 ∧
  ∃ (t27 : Int),
  w.cell? (t25.add 1) = some (.int .i64 t27) ∧
  ∃ (I : (Int) × Unit → World → Prop) (μ : (Int) × Unit → World → Nat),
  I (t27, ()) w ∧
  ∀ (J : Env) (s : (Int) × Unit) (w' : World), I s w' →
    S40_L3 r s.1 w' R (fun s' w'' => I s' w'' ∧ μ s' w'' < μ s w')

def S40_k1 (r : Option Addr) (t23 : Bool) (w : World) (R : Value → World → Prop) : Prop :=
  cond t23 (
    R (.int .i64 11) w
  ) (
    S40_k2 r w R
  )

def S40_k0 (r : Option Addr) (w : World) (R : Value → World → Prop) : Prop :=
  ∃ (t14 : Addr),
  r = some t14 ∧
  ∃ (t19 : Addr),
  r = some t19 ∧
  ∃ (t16_a : Option Addr) (t16_l : Nat) (t16_c : Nat),
  w.drew.cell? t14 = some (.slice t16_a t16_l t16_c) ∧
  ∃ (t21 : Int),
  w.drew.cell? (t19.add 1) = some (.int .i64 t21) ∧
  S40_k1 r (decide ((7 : Int) < (IntKind.i64.wrap (((t16_l : Nat) : Int) - t21)))) w.drew R

def S40 (r : Option Addr) (w : World) (R : Value → World → Prop) : Prop :=
  ∃ (t5 : Addr),
  r = some t5 ∧
  ∃ (t7 : Int),
  w.cell? (t5.add 2) = some (.int .i64 t7) ∧
  cond (!decide ((t7 : Int) = 0)) (
    ∃ (t10 : Addr),
    r = some t10 ∧
    ∃ (t12 : Int),
    w.cell? (t10.add 2) = some (.int .i64 t12) ∧
    R (.int .i64 t12) w
  ) (
    S40_k0 r w R
  )

theorem S40_eq (r : Option Addr) (w : World) (R : Value → World → Prop) : Eng.R Try.prog ⟨cal, S40_nx⟩ 44 S40_ann [] (Try.f40.body.getD .skip) (bodyQ Try.prog #[.tmp 2] R) (argE [(.pointer r)]) w = S40 r w R := by kernel_rfl
/-- A call of '(*carfax/carfaxref01.Reader).End', by its condition. -/
theorem S40_calls {r : Option Addr} {w : World} {R : Value → World → Prop} (hS : S40 r w R) : Ret Try.prog 40 [(.pointer r)] w R :=
  R_calls (C := ⟨cal, S40_nx⟩) cal_ok follows Try.func40 (c := Try.f40.body.getD .skip) (res := #[.tmp 2]) (n := 44) (by kernel_rfl) (by kernel_rfl) (by kernel_rfl) (by kernel_rfl) ((S40_eq r w R).mpr hS)

def S41_ann (p : List Nat) : Option LA := match p with
  | [0, 1, 0, 1, 1, 1] => some ⟨[1, 7], [(8, .one (.int .i64))]⟩
  | _ => none

def S41_nx (t : Nat) : Option (TypeId × TypeId) := none

def S41_k3 (n_ : Int) (lay_f0 : Option Addr) (k : Int) (w : World) (R : Value → World → Prop) (B1 : (Int) × Unit → World → Prop) : Prop :=
  0 ≤ (k : Int) ∧
  Calls Try.prog 44 ⟨[(.pointer lay_f0), (.bool (decide (((bitsI .and .u64 (Int.fdiv n_ (2 ^ (min (Int.toNat k) (IntKind.u64.bits)))) 1) : Int) = 1)))]⟩ w fun e w_ =>
    e = .returned (.tuple ⟨[]⟩) ∧
    B1 ((IntKind.i64.wrap (k - 1)), ()) w_

def S41_L2 (n_ : Int) (lay_f0 : Option Addr) (k : Int) (w : World) (R : Value → World → Prop) (B1 : (Int) × Unit → World → Prop) : Prop :=
  cond (decide ((0 : Int) ≤ k)) (
    S41_k3 n_ lay_f0 k w R B1
  ) (
    R (.int .i64 0) w
  )

def S41_k1 (w_ : Option Addr) (n_ : Int) (many : Int) (w : World) (R : Value → World → Prop) : Prop :=
  ∃ (I : (Int) × Unit → World → Prop) (μ : (Int) × Unit → World → Nat),
  I ((IntKind.i64.wrap (many - 1)), ()) w ∧
  ∀ (J : Env) (s : (Int) × Unit) (w' : World), I s w' →
    S41_L2 n_ w_ s.1 w' R (fun s' w'' => I s' w'' ∧ μ s' w'' < μ s w')

def S41_k0 (w_ : Option Addr) (n_ : Int) (many : Int) (t12 : Bool) (w : World) (R : Value → World → Prop) : Prop :=
  cond t12 (
    R (.int .i64 1) w
  ) (
    ∃ (t22 : Addr),
    w_ = some t22 ∧
    ∃ (t24 : Int),
    w.cell? (t22.add 1) = some (.int .i64 t24) ∧
    cond (decide (((IntKind.i64.wrap (1048576 - t24)) : Int) < many)) (
      R (.int .i64 4) w
    ) (
      S41_k1 w_ n_ many w R
    )
  )

def S41 (w_ : Option Addr) (n_ : Int) (many : Int) (w : World) (R : Value → World → Prop) : Prop :=
  cond (Option.isNone w_) (
    R (.int .i64 2) w
  ) (
    cond (decide ((many : Int) < 0)) (
      S41_k0 w_ n_ many true w R
    ) (
      S41_k0 w_ n_ many (decide ((64 : Int) < many)) w R
    )
  )

theorem S41_eq (w_ : Option Addr) (n_ : Int) (many : Int) (w : World) (R : Value → World → Prop) : Eng.R Try.prog ⟨cal, S41_nx⟩ 42 S41_ann [] (Try.f41.body.getD .skip) (bodyQ Try.prog #[.tmp 6] R) (argE [(.pointer w_), (.int .u64 n_), (.int .i64 many)]) w = S41 w_ n_ many w R := by kernel_rfl
/-- A call of '(*carfax/bits.Writer).Put', by its condition. -/
theorem S41_calls {w_ : Option Addr} {n_ : Int} {many : Int} {w : World} {R : Value → World → Prop} (hS : S41 w_ n_ many w R) : Ret Try.prog 41 [(.pointer w_), (.int .u64 n_), (.int .i64 many)] w R :=
  R_calls (C := ⟨cal, S41_nx⟩) cal_ok follows Try.func41 (c := Try.f41.body.getD .skip) (res := #[.tmp 6]) (n := 42) (by kernel_rfl) (by kernel_rfl) (by kernel_rfl) (by kernel_rfl) ((S41_eq w_ n_ many w R).mpr hS)

def S42_ann (p : List Nat) : Option LA :=
  none

def S42_nx (t : Nat) : Option (TypeId × TypeId) := none

def S42_k2 (x : Int) (n_ : Int) (w : World) (R : Value → World → Prop) : Prop :=
  ∃ (t22 : UInt8),
  0 ≤ ((IntKind.u8.wrap x) : Int) ∧
  ((⟨#[0, 1, 2, 2, 3, 3, 3, 3, 4, 4, 4, 4, 4, 4, 4, 4, 5, 5, 5, 5, 5, 5, 5, 5, 5, 5, 5, 5, 5, 5, 5, 5, 6, 6, 6, 6, 6, 6, 6, 6, 6, 6, 6, 6, 6, 6, 6, 6, 6, 6, 6, 6, 6, 6, 6, 6, 6, 6, 6, 6, 6, 6, 6, 6, 7, 7, 7, 7, 7, 7, 7, 7, 7, 7, 7, 7, 7, 7, 7, 7, 7, 7, 7, 7, 7, 7, 7, 7, 7, 7, 7, 7, 7, 7, 7, 7, 7, 7, 7, 7, 7, 7, 7, 7, 7, 7, 7, 7, 7, 7, 7, 7, 7, 7, 7, 7, 7, 7, 7, 7, 7, 7, 7, 7, 7, 7, 7, 7, 8, 8, 8, 8, 8, 8, 8, 8, 8, 8, 8, 8, 8, 8, 8, 8, 8, 8, 8, 8, 8, 8, 8, 8, 8, 8, 8, 8, 8, 8, 8, 8, 8, 8, 8, 8, 8, 8, 8, 8, 8, 8, 8, 8, 8, 8, 8, 8, 8, 8, 8, 8, 8, 8, 8, 8, 8, 8, 8, 8, 8, 8, 8, 8, 8, 8, 8, 8, 8, 8, 8, 8, 8, 8, 8, 8, 8, 8, 8, 8, 8, 8, 8, 8, 8, 8, 8, 8, 8, 8, 8, 8, 8, 8, 8, 8, 8, 8, 8, 8, 8, 8, 8, 8, 8, 8, 8, 8, 8, 8, 8, 8, 8, 8, 8, 8, 8, 8, 8, 8, 8, 8, 8, 8, 8, 8, 8, 8]⟩ : ByteArray))[Int.toNat (IntKind.u8.wrap x)]? = some t22 ∧
  R (.int .i64 (IntKind.i64.wrap (n_ + (IntKind.i64.wrap (t22.toNat : Int))))) w

def S42_k1 (x : Int) (n_ : Int) (w : World) (R : Value → World → Prop) : Prop :=
  cond (decide ((256 : Int) ≤ x)) (
    0 ≤ (8 : Int) ∧
    S42_k2 (Int.fdiv x (2 ^ (min (Int.toNat 8) (IntKind.u64.bits)))) (IntKind.i64.wrap (n_ + 8)) w R
  ) (
    S42_k2 x n_ w R
  )

def S42_k0 (x : Int) (n_ : Int) (w : World) (R : Value → World → Prop) : Prop :=
  cond (decide ((65536 : Int) ≤ x)) (
    0 ≤ (16 : Int) ∧
    S42_k1 (Int.fdiv x (2 ^ (min (Int.toNat 16) (IntKind.u64.bits)))) (IntKind.i64.wrap (n_ + 16)) w R
  ) (
    S42_k1 x n_ w R
  )

def S42 (x : Int) (w : World) (R : Value → World → Prop) : Prop :=
  cond (decide ((4294967296 : Int) ≤ x)) (
    0 ≤ (32 : Int) ∧
    S42_k0 (Int.fdiv x (2 ^ (min (Int.toNat 32) (IntKind.u64.bits)))) 32 w R
  ) (
    S42_k0 x 0 w R
  )

theorem S42_eq (x : Int) (w : World) (R : Value → World → Prop) : Eng.R Try.prog ⟨cal, S42_nx⟩ 25 S42_ann [] (Try.f42.body.getD .skip) (bodyQ Try.prog #[.tmp 2] R) (argE [(.int .u64 x)]) w = S42 x w R := by kernel_rfl
/-- A call of 'math/bits.Len64', by its condition. -/
theorem S42_calls {x : Int} {w : World} {R : Value → World → Prop} (hS : S42 x w R) : Ret Try.prog 42 [(.int .u64 x)] w R :=
  R_calls (C := ⟨cal, S42_nx⟩) cal_ok follows Try.func42 (c := Try.f42.body.getD .skip) (res := #[.tmp 2]) (n := 25) (by kernel_rfl) (by kernel_rfl) (by kernel_rfl) (by kernel_rfl) ((S42_eq x w R).mpr hS)

def S43_ann (p : List Nat) : Option LA :=
  none

def S43_nx (t : Nat) : Option (TypeId × TypeId) := none

def S43 (r : Option Addr) (ahead : Int) (w : World) (R : Value → World → Prop) : Prop :=
  ∃ (t7 : Addr),
  r = some t7 ∧
  ∃ (t9 : Int),
  w.cell? (t7.add 1) = some (.int .i64 t9) ∧
  ∃ (t13 : Addr),
  r = some t13 ∧
  ∃ (t15_a : Option Addr) (t15_l : Nat) (t15_c : Nat),
  w.cell? t13 = some (.slice t15_a t15_l t15_c) ∧
  (8 : Int) ≠ 0 ∧
  ∃ (t18 : Addr),
  t15_a = some t18 ∧
  0 ≤ ((IntKind.i64.wrap (Int.tdiv (IntKind.i64.wrap (t9 + ahead)) 8)) : Int) ∧
  ((IntKind.i64.wrap (Int.tdiv (IntKind.i64.wrap (t9 + ahead)) 8)) : Int) < ((t15_l : Nat) : Int) ∧
  ∃ (t19 : Int),
  w.cell? (t18.add (Int.toNat (IntKind.i64.wrap (Int.tdiv (IntKind.i64.wrap (t9 + ahead)) 8)) * 1)) = some (.int .u8 t19) ∧
  (8 : Int) ≠ 0 ∧
  0 ≤ ((IntKind.i64.wrap (7 - (Int.tmod (IntKind.i64.wrap (t9 + ahead)) 8))) : Int) ∧
  R (.bool (decide (((bitsI .and .u8 (Int.fdiv t19 (2 ^ (min (Int.toNat (IntKind.i64.wrap (7 - (Int.tmod (IntKind.i64.wrap (t9 + ahead)) 8)))) (IntKind.u8.bits)))) 1) : Int) = 1))) w

theorem S43_eq (r : Option Addr) (ahead : Int) (w : World) (R : Value → World → Prop) : Eng.R Try.prog ⟨cal, S43_nx⟩ 26 S43_ann [] (Try.f43.body.getD .skip) (bodyQ Try.prog #[.tmp 4] R) (argE [(.pointer r), (.int .i64 ahead)]) w = S43 r ahead w R := by kernel_rfl
/-- A call of '(*carfax/bits.Reader).one', by its condition. -/
theorem S43_calls {r : Option Addr} {ahead : Int} {w : World} {R : Value → World → Prop} (hS : S43 r ahead w R) : Ret Try.prog 43 [(.pointer r), (.int .i64 ahead)] w R :=
  R_calls (C := ⟨cal, S43_nx⟩) cal_ok follows Try.func43 (c := Try.f43.body.getD .skip) (res := #[.tmp 4]) (n := 26) (by kernel_rfl) (by kernel_rfl) (by kernel_rfl) (by kernel_rfl) ((S43_eq r ahead w R).mpr hS)

def S44_ann (p : List Nat) : Option LA :=
  none

def S44_nx (t : Nat) : Option (TypeId × TypeId) := none

def S44_k1 (w_ : Option Addr) (w : World) (R : Value → World → Prop) : Prop :=
  ∃ (t40 : Addr),
  w_ = some t40 ∧
  ∃ (t42 : Int),
  w.cell? (t40.add 1) = some (.int .i64 t42) ∧
  ∃ (t44 : Addr),
  w_ = some t44 ∧
  (∃ u, w.cell? (t44.add 1) = some u) ∧
  w.frozen? (t44.add 1) = false ∧
  R (.tuple ⟨[]⟩) (w.setCell (t44.add 1) (.int .i64 (IntKind.i64.wrap (t42 + 1))))

def S44_k0 (w_ : Option Addr) (one : Bool) (w : World) (R : Value → World → Prop) : Prop :=
  cond one (
    ∃ (t21 : Addr),
    w_ = some t21 ∧
    ∃ (t25 : Addr),
    w_ = some t25 ∧
    ∃ (t32 : Addr),
    w_ = some t32 ∧
    (
      ∃ (t23_a : Option Addr) (t23_l : Nat) (t23_c : Nat),
      w.drew.cell? t21 = some (.slice t23_a t23_l t23_c) ∧
      (
        ∃ (t27 : Int),
        w.drew.cell? (t25.add 1) = some (.int .i64 t27) ∧
        (8 : Int) ≠ 0 ∧
        ∃ (t29 : Addr),
        t23_a = some t29 ∧
        0 ≤ ((IntKind.i64.wrap (Int.tdiv t27 8)) : Int) ∧
        ((IntKind.i64.wrap (Int.tdiv t27 8)) : Int) < ((t23_l : Nat) : Int) ∧
        ∃ (t34 : Int),
        w.drew.cell? (t32.add 1) = some (.int .i64 t34) ∧
        (8 : Int) ≠ 0 ∧
        0 ≤ ((Int.tmod t34 8) : Int) ∧
        ∃ (t30 : Int),
        w.drew.cell? (t29.add (Int.toNat (IntKind.i64.wrap (Int.tdiv t27 8)) * 1)) = some (.int .u8 t30) ∧
        ∃ (t38 : Addr),
        t23_a = some t38 ∧
        0 ≤ ((IntKind.i64.wrap (Int.tdiv t27 8)) : Int) ∧
        ((IntKind.i64.wrap (Int.tdiv t27 8)) : Int) < ((t23_l : Nat) : Int) ∧
        (∃ u, w.drew.cell? (t38.add (Int.toNat (IntKind.i64.wrap (Int.tdiv t27 8)) * 1)) = some u) ∧
        w.drew.frozen? (t38.add (Int.toNat (IntKind.i64.wrap (Int.tdiv t27 8)) * 1)) = false ∧
        S44_k1 w_ (w.drew.setCell (t38.add (Int.toNat (IntKind.i64.wrap (Int.tdiv t27 8)) * 1)) (.int .u8 (bitsI .or .u8 t30 (Int.fdiv 128 (2 ^ (min (Int.toNat (Int.tmod t34 8)) (IntKind.u8.bits))))))) R
      ) ∧
      (
        ∃ (t34_1 : Int),
        w.drew.cell? (t32.add 1) = some (.int .i64 t34_1) ∧
        (8 : Int) ≠ 0 ∧
        0 ≤ ((Int.tmod t34_1 8) : Int) ∧
        ∃ (t27_1 : Int),
        w.drew.cell? (t25.add 1) = some (.int .i64 t27_1) ∧
        (8 : Int) ≠ 0 ∧
        ∃ (t29_1 : Addr),
        t23_a = some t29_1 ∧
        0 ≤ ((IntKind.i64.wrap (Int.tdiv t27_1 8)) : Int) ∧
        ((IntKind.i64.wrap (Int.tdiv t27_1 8)) : Int) < ((t23_l : Nat) : Int) ∧
        ∃ (t30_1 : Int),
        w.drew.cell? (t29_1.add (Int.toNat (IntKind.i64.wrap (Int.tdiv t27_1 8)) * 1)) = some (.int .u8 t30_1) ∧
        ∃ (t38_1 : Addr),
        t23_a = some t38_1 ∧
        0 ≤ ((IntKind.i64.wrap (Int.tdiv t27_1 8)) : Int) ∧
        ((IntKind.i64.wrap (Int.tdiv t27_1 8)) : Int) < ((t23_l : Nat) : Int) ∧
        (∃ u, w.drew.cell? (t38_1.add (Int.toNat (IntKind.i64.wrap (Int.tdiv t27_1 8)) * 1)) = some u) ∧
        w.drew.frozen? (t38_1.add (Int.toNat (IntKind.i64.wrap (Int.tdiv t27_1 8)) * 1)) = false ∧
        S44_k1 w_ (w.drew.setCell (t38_1.add (Int.toNat (IntKind.i64.wrap (Int.tdiv t27_1 8)) * 1)) (.int .u8 (bitsI .or .u8 t30_1 (Int.fdiv 128 (2 ^ (min (Int.toNat (Int.tmod t34_1 8)) (IntKind.u8.bits))))))) R
      )
    ) ∧
    (
      ∃ (t27_2 : Int),
      w.drew.cell? (t25.add 1) = some (.int .i64 t27_2) ∧
      (8 : Int) ≠ 0 ∧
      ∃ (t34_2 : Int),
      w.drew.cell? (t32.add 1) = some (.int .i64 t34_2) ∧
      (8 : Int) ≠ 0 ∧
      0 ≤ ((Int.tmod t34_2 8) : Int) ∧
      ∃ (t23_a_1 : Option Addr) (t23_l_1 : Nat) (t23_c_1 : Nat),
      w.drew.cell? t21 = some (.slice t23_a_1 t23_l_1 t23_c_1) ∧
      ∃ (t29_2 : Addr),
      t23_a_1 = some t29_2 ∧
      0 ≤ ((IntKind.i64.wrap (Int.tdiv t27_2 8)) : Int) ∧
      ((IntKind.i64.wrap (Int.tdiv t27_2 8)) : Int) < ((t23_l_1 : Nat) : Int) ∧
      ∃ (t30_2 : Int),
      w.drew.cell? (t29_2.add (Int.toNat (IntKind.i64.wrap (Int.tdiv t27_2 8)) * 1)) = some (.int .u8 t30_2) ∧
      ∃ (t38_2 : Addr),
      t23_a_1 = some t38_2 ∧
      0 ≤ ((IntKind.i64.wrap (Int.tdiv t27_2 8)) : Int) ∧
      ((IntKind.i64.wrap (Int.tdiv t27_2 8)) : Int) < ((t23_l_1 : Nat) : Int) ∧
      (∃ u, w.drew.cell? (t38_2.add (Int.toNat (IntKind.i64.wrap (Int.tdiv t27_2 8)) * 1)) = some u) ∧
      w.drew.frozen? (t38_2.add (Int.toNat (IntKind.i64.wrap (Int.tdiv t27_2 8)) * 1)) = false ∧
      S44_k1 w_ (w.drew.setCell (t38_2.add (Int.toNat (IntKind.i64.wrap (Int.tdiv t27_2 8)) * 1)) (.int .u8 (bitsI .or .u8 t30_2 (Int.fdiv 128 (2 ^ (min (Int.toNat (Int.tmod t34_2 8)) (IntKind.u8.bits))))))) R
    ) ∧
    (
      ∃ (t34_3 : Int),
      w.drew.cell? (t32.add 1) = some (.int .i64 t34_3) ∧
      (8 : Int) ≠ 0 ∧
      0 ≤ ((Int.tmod t34_3 8) : Int) ∧
      ∃ (t27_3 : Int),
      w.drew.cell? (t25.add 1) = some (.int .i64 t27_3) ∧
      (8 : Int) ≠ 0 ∧
      ∃ (t23_a_2 : Option Addr) (t23_l_2 : Nat) (t23_c_2 : Nat),
      w.drew.cell? t21 = some (.slice t23_a_2 t23_l_2 t23_c_2) ∧
      ∃ (t29_3 : Addr),
      t23_a_2 = some t29_3 ∧
      0 ≤ ((IntKind.i64.wrap (Int.tdiv t27_3 8)) : Int) ∧
      ((IntKind.i64.wrap (Int.tdiv t27_3 8)) : Int) < ((t23_l_2 : Nat) : Int) ∧
      ∃ (t30_3 : Int),
      w.drew.cell? (t29_3.add (Int.toNat (IntKind.i64.wrap (Int.tdiv t27_3 8)) * 1)) = some (.int .u8 t30_3) ∧
      ∃ (t38_3 : Addr),
      t23_a_2 = some t38_3 ∧
      0 ≤ ((IntKind.i64.wrap (Int.tdiv t27_3 8)) : Int) ∧
      ((IntKind.i64.wrap (Int.tdiv t27_3 8)) : Int) < ((t23_l_2 : Nat) : Int) ∧
      (∃ u, w.drew.cell? (t38_3.add (Int.toNat (IntKind.i64.wrap (Int.tdiv t27_3 8)) * 1)) = some u) ∧
      w.drew.frozen? (t38_3.add (Int.toNat (IntKind.i64.wrap (Int.tdiv t27_3 8)) * 1)) = false ∧
      S44_k1 w_ (w.drew.setCell (t38_3.add (Int.toNat (IntKind.i64.wrap (Int.tdiv t27_3 8)) * 1)) (.int .u8 (bitsI .or .u8 t30_3 (Int.fdiv 128 (2 ^ (min (Int.toNat (Int.tmod t34_3 8)) (IntKind.u8.bits))))))) R
    )
  ) (
    S44_k1 w_ w R
  )

def S44 (w_ : Option Addr) (one : Bool) (w : World) (R : Value → World → Prop) : Prop :=
  ∃ (t5 : Addr),
  w_ = some t5 ∧
  ∃ (t7 : Int),
  w.cell? (t5.add 1) = some (.int .i64 t7) ∧
  (8 : Int) ≠ 0 ∧
  cond (decide (((Int.tmod t7 8) : Int) = 0)) (
    ∃ (t12 : Addr),
    w_ = some t12 ∧
    ∃ (t14_a : Option Addr) (t14_l : Nat) (t14_c : Nat),
    w.cell? t12 = some (.slice t14_a t14_l t14_c) ∧
    ∃ (t16_a : Option Addr) (t16_l : Nat) (t16_c : Nat) (w__1 : World),
    (Builtin.append_ #[24, 24] 24 ⟨[(.slice t14_a t14_l t14_c), (.slice (some ⟨w.heap.size, 0, none⟩) 1 1)]⟩).run Try.prog (w.alloc (.cells ⟨[(.int .u8 0)]⟩ 5)) = .ok (.slice t16_a t16_l t16_c) w__1 ∧
    ∃ (t17 : Addr),
    w_ = some t17 ∧
    (∃ u, w__1.cell? t17 = some u) ∧
    w__1.frozen? t17 = false ∧
    S44_k0 w_ one (w__1.setCell t17 (.slice t16_a t16_l t16_c)) R
  ) (
    S44_k0 w_ one w R
  )

theorem S44_eq (w_ : Option Addr) (one : Bool) (w : World) (R : Value → World → Prop) : Eng.R Try.prog ⟨cal, S44_nx⟩ 46 S44_ann [] (Try.f44.body.getD .skip) (bodyQ Try.prog #[] R) (argE [(.pointer w_), (.bool one)]) w = S44 w_ one w R := by kernel_rfl
/-- A call of '(*carfax/bits.Writer).bit', by its condition. -/
theorem S44_calls {w_ : Option Addr} {one : Bool} {w : World} {R : Value → World → Prop} (hS : S44 w_ one w R) : Ret Try.prog 44 [(.pointer w_), (.bool one)] w R :=
  R_calls (C := ⟨cal, S44_nx⟩) cal_ok follows Try.func44 (c := Try.f44.body.getD .skip) (res := #[]) (n := 46) (by kernel_rfl) (by kernel_rfl) (by kernel_rfl) (by kernel_rfl) ((S44_eq w_ one w R).mpr hS)

end Go.Proofs
