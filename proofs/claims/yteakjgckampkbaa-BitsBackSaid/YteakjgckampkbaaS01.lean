import Derived.Test.YteakjgckampkbaaProg
import Derived.Test.YteakjgckampkbaaEng8
set_option linter.unusedVariables false
set_option maxRecDepth 100000
namespace Go.Proofs
open Go Go.Eng
def cal (f : FuncId) : Bool := Nat.ble 3 f && Nat.blt f 32
theorem cal_all : (List.range 32).all (fun f => !cal f || callable Try.prog f) = true := by kernel_rfl
theorem cal_ok (f : FuncId) (h : cal f = true) : callable Try.prog f = true := by
  have hb := h
  simp only [cal, Bool.and_eq_true, Nat.blt_eq] at hb
  have := List.all_eq_true.1 cal_all f (List.mem_range.2 hb.2)
  rw [h] at this
  simpa using this
theorem follows : Try.prog.follows .mixedOrders = true := by kernel_rfl

def S3_ann (p : List Nat) : Option LA := match p with
  | [0, 1, 0, 1, 1, 1, 1, 1] => some ⟨[3, 4, 18, 19], [(5, .one .slice), (20, .one (.int .i64))]⟩
  | [0, 1, 0, 1, 1, 1, 1, 1, 1, 1, 1] => some ⟨[3, 4, 5, 10, 11, 79], [(80, .one (.int .i64))]⟩
  | _ => none

def S3_nx (t : Nat) : Option (TypeId × TypeId) := none

def S3_k4 (head : Bool) (w_ : Option Addr) (all_a : Option Addr) (all_l : Nat) (all_c : Nat) (t18_a : Option Addr) (t18_l : Nat) (t18_c : Nat) (t19 : Int) (t20 : Int) (t68 : Bool) (w : World) (R : Value → World → Prop) (B1 : (Option Addr × Nat × Nat) × (Int) × Unit → World → Prop) : Prop :=
  cond t68 (
    R (.bool false) w
  ) (
    B1 ((all_a, all_l, all_c), (IntKind.i64.wrap (t20 + 1)), ()) w
  )

def S3_k3 (head : Bool) (w_ : Option Addr) (all_a : Option Addr) (all_l : Nat) (all_c : Nat) (want : Int) (e_1 : Int) (t18_a : Option Addr) (t18_l : Nat) (t18_c : Nat) (t19 : Int) (t20 : Int) (w : World) (R : Value → World → Prop) (B1 : (Option Addr × Nat × Nat) × (Int) × Unit → World → Prop) : Prop :=
  cond (!decide ((e_1 : Int) = want)) (
    S3_k4 head w_ all_a all_l all_c t18_a t18_l t18_c t19 t20 true w R B1
  ) (
    Calls Try.prog 17 ⟨[(.pointer w_)]⟩ w fun e w__1 =>
      ∃ (t64 : Int),
      e = .returned (.int .i64 t64) ∧
      S3_k4 head w_ all_a all_l all_c t18_a t18_l t18_c t19 t20 (!decide ((t64 : Int) = ((all_l : Nat) : Int))) w__1 R B1
  )

def S3_k5 (head : Bool) (w_ : Option Addr) (all_a : Option Addr) (all_l : Nat) (all_c : Nat) (p : Addr) (want : Int) (e_1 : Int) (t18_a : Option Addr) (t18_l : Nat) (t18_c : Nat) (t19 : Int) (t20 : Int) (t51 : Bool) (w : World) (R : Value → World → Prop) (B1 : (Option Addr × Nat × Nat) × (Int) × Unit → World → Prop) : Prop :=
  cond t51 (
    S3_k3 head w_ all_a all_l all_c 1 e_1 t18_a t18_l t18_c t19 t20 w R B1
  ) (
    ∃ (t54 : Int),
    w.cell? (p.add 1) = some (.int .u64 t54) ∧
    ∃ (t56 : Int),
    w.cell? (p.add 2) = some (.int .i64 t56) ∧
    Calls Try.prog 16 ⟨[(.int .u64 t54), (.int .i64 t56)]⟩ w fun e w__1 =>
      ∃ (t57_a : Option Addr) (t57_l : Nat) (t57_c : Nat),
      e = .returned (.slice t57_a t57_l t57_c) ∧
      ∃ (t58_a : Option Addr) (t58_l : Nat) (t58_c : Nat) (w__2 : World),
      (Builtin.append_ #[26, 26] 26 ⟨[(.slice all_a all_l all_c), (.slice t57_a t57_l t57_c)]⟩).run Try.prog w__1 = .ok (.slice t58_a t58_l t58_c) w__2 ∧
      S3_k3 head w_ t58_a t58_l t58_c want e_1 t18_a t18_l t18_c t19 t20 w__2 R B1
  )

def S3_k2 (head : Bool) (w_ : Option Addr) (all_a : Option Addr) (all_l : Nat) (all_c : Nat) (t18_a : Option Addr) (t18_l : Nat) (t18_c : Nat) (t19 : Int) (t20 : Int) (w : World) (R : Value → World → Prop) (B1 : (Option Addr × Nat × Nat) × (Int) × Unit → World → Prop) : Prop :=
  ∃ (t22 : Addr),
  t18_a = some t22 ∧
  0 ≤ (t20 : Int) ∧
  (t20 : Int) < ((t18_l : Nat) : Int) ∧
  ∃ (t23_0 : Bool),
  w.cell? (t22.add (Int.toNat t20 * 3)) = some (.bool t23_0) ∧
  ∃ (t23_1 : Int),
  w.cell? ((t22.add (Int.toNat t20 * 3)).add 1) = some (.int .u64 t23_1) ∧
  ∃ (t23_2 : Int),
  w.cell? ((t22.add (Int.toNat t20 * 3)).add 2) = some (.int .i64 t23_2) ∧
  (∃ u, (w.alloc (.cells ⟨[(.bool false), (.int .u64 0), (.int .i64 0)]⟩ 30)).cell? ⟨w.heap.size, 0, none⟩ = some u) ∧
  (w.alloc (.cells ⟨[(.bool false), (.int .u64 0), (.int .i64 0)]⟩ 30)).frozen? ⟨w.heap.size, 0, none⟩ = false ∧
  (∃ u, ((w.alloc (.cells ⟨[(.bool false), (.int .u64 0), (.int .i64 0)]⟩ 30)).setCell ⟨w.heap.size, 0, none⟩ (.bool t23_0)).cell? ⟨w.heap.size, 1, none⟩ = some u) ∧
  ((w.alloc (.cells ⟨[(.bool false), (.int .u64 0), (.int .i64 0)]⟩ 30)).setCell ⟨w.heap.size, 0, none⟩ (.bool t23_0)).frozen? ⟨w.heap.size, 1, none⟩ = false ∧
  (∃ u, (((w.alloc (.cells ⟨[(.bool false), (.int .u64 0), (.int .i64 0)]⟩ 30)).setCell ⟨w.heap.size, 0, none⟩ (.bool t23_0)).setCell ⟨w.heap.size, 1, none⟩ (.int .u64 t23_1)).cell? ⟨w.heap.size, 2, none⟩ = some u) ∧
  (((w.alloc (.cells ⟨[(.bool false), (.int .u64 0), (.int .i64 0)]⟩ 30)).setCell ⟨w.heap.size, 0, none⟩ (.bool t23_0)).setCell ⟨w.heap.size, 1, none⟩ (.int .u64 t23_1)).frozen? ⟨w.heap.size, 2, none⟩ = false ∧
  ∃ (t25 : Bool),
  ((((w.alloc (.cells ⟨[(.bool false), (.int .u64 0), (.int .i64 0)]⟩ 30)).setCell ⟨w.heap.size, 0, none⟩ (.bool t23_0)).setCell ⟨w.heap.size, 1, none⟩ (.int .u64 t23_1)).setCell ⟨w.heap.size, 2, none⟩ (.int .i64 t23_2)).cell? ⟨w.heap.size, 0, none⟩ = some (.bool t25) ∧
  cond t25 (
    ∃ (t28 : Int),
    ((((w.alloc (.cells ⟨[(.bool false), (.int .u64 0), (.int .i64 0)]⟩ 30)).setCell ⟨w.heap.size, 0, none⟩ (.bool t23_0)).setCell ⟨w.heap.size, 1, none⟩ (.int .u64 t23_1)).setCell ⟨w.heap.size, 2, none⟩ (.int .i64 t23_2)).cell? ⟨w.heap.size, 1, none⟩ = some (.int .u64 t28) ∧
    Calls Try.prog 13 ⟨[(.pointer w_), (.int .u64 t28)]⟩ ((((w.alloc (.cells ⟨[(.bool false), (.int .u64 0), (.int .i64 0)]⟩ 30)).setCell ⟨w.heap.size, 0, none⟩ (.bool t23_0)).setCell ⟨w.heap.size, 1, none⟩ (.int .u64 t23_1)).setCell ⟨w.heap.size, 2, none⟩ (.int .i64 t23_2)) fun e w__1 =>
      ∃ (t29 : Int),
      e = .returned (.int .i64 t29) ∧
      ∃ (t31 : Int),
      w__1.cell? ⟨w.heap.size, 1, none⟩ = some (.int .u64 t31) ∧
      cond (decide ((t31 : Int) = 18446744073709551615)) (
        S3_k3 head w_ all_a all_l all_c 1 t29 t18_a t18_l t18_c t19 t20 w__1 R B1
      ) (
        ∃ (t35 : Int),
        w__1.cell? ⟨w.heap.size, 1, none⟩ = some (.int .u64 t35) ∧
        Calls Try.prog 14 ⟨[(.int .u64 t35)]⟩ w__1 fun e w__2 =>
          ∃ (t36_a : Option Addr) (t36_l : Nat) (t36_c : Nat),
          e = .returned (.slice t36_a t36_l t36_c) ∧
          ∃ (t37_a : Option Addr) (t37_l : Nat) (t37_c : Nat) (w__3 : World),
          (Builtin.append_ #[26, 26] 26 ⟨[(.slice all_a all_l all_c), (.slice t36_a t36_l t36_c)]⟩).run Try.prog w__2 = .ok (.slice t37_a t37_l t37_c) w__3 ∧
          S3_k3 head w_ t37_a t37_l t37_c 0 t29 t18_a t18_l t18_c t19 t20 w__3 R B1
      )
  ) (
    ∃ (t40 : Int),
    ((((w.alloc (.cells ⟨[(.bool false), (.int .u64 0), (.int .i64 0)]⟩ 30)).setCell ⟨w.heap.size, 0, none⟩ (.bool t23_0)).setCell ⟨w.heap.size, 1, none⟩ (.int .u64 t23_1)).setCell ⟨w.heap.size, 2, none⟩ (.int .i64 t23_2)).cell? ⟨w.heap.size, 1, none⟩ = some (.int .u64 t40) ∧
    ∃ (t42 : Int),
    ((((w.alloc (.cells ⟨[(.bool false), (.int .u64 0), (.int .i64 0)]⟩ 30)).setCell ⟨w.heap.size, 0, none⟩ (.bool t23_0)).setCell ⟨w.heap.size, 1, none⟩ (.int .u64 t23_1)).setCell ⟨w.heap.size, 2, none⟩ (.int .i64 t23_2)).cell? ⟨w.heap.size, 2, none⟩ = some (.int .i64 t42) ∧
    Calls Try.prog 15 ⟨[(.pointer w_), (.int .u64 t40), (.int .i64 t42)]⟩ ((((w.alloc (.cells ⟨[(.bool false), (.int .u64 0), (.int .i64 0)]⟩ 30)).setCell ⟨w.heap.size, 0, none⟩ (.bool t23_0)).setCell ⟨w.heap.size, 1, none⟩ (.int .u64 t23_1)).setCell ⟨w.heap.size, 2, none⟩ (.int .i64 t23_2)) fun e w__4 =>
      ∃ (t43 : Int),
      e = .returned (.int .i64 t43) ∧
      ∃ (t45 : Int),
      w__4.cell? ⟨w.heap.size, 2, none⟩ = some (.int .i64 t45) ∧
      cond (decide ((t45 : Int) < 0)) (
        S3_k5 head w_ all_a all_l all_c ⟨w.heap.size, 0, none⟩ 0 t43 t18_a t18_l t18_c t19 t20 true w__4 R B1
      ) (
        ∃ (t49 : Int),
        w__4.cell? ⟨w.heap.size, 2, none⟩ = some (.int .i64 t49) ∧
        S3_k5 head w_ all_a all_l all_c ⟨w.heap.size, 0, none⟩ 0 t43 t18_a t18_l t18_c t19 t20 (decide ((64 : Int) < t49)) w__4 R B1
      )
  )

def S3_k9 (head : Bool) (w_ : Option Addr) (all_a : Option Addr) (all_l : Nat) (all_c : Nat) (b_a : Option Addr) (b_l : Nat) (b_c : Nat) (same : Bool) (t79 : Int) (t80 : Int) (w : World) (R : Value → World → Prop) (B1 : (Int) × Unit → World → Prop) : Prop :=
  ∃ (t85 : Addr),
  b_a = some t85 ∧
  0 ≤ (t80 : Int) ∧
  (t80 : Int) < ((b_l : Nat) : Int) ∧
  ∃ (t86 : Int),
  w.cell? (t85.add (Int.toNat t80 * 1)) = some (.int .u8 t86) ∧
  ∃ (t88 : Addr),
  b_a = some t88 ∧
  0 ≤ (t80 : Int) ∧
  (t80 : Int) < ((b_l : Nat) : Int) ∧
  (∃ u, w.cell? (t88.add (Int.toNat t80 * 1)) = some u) ∧
  w.frozen? (t88.add (Int.toNat t80 * 1)) = false ∧
  B1 ((IntKind.i64.wrap (t80 + 1)), ()) (w.setCell (t88.add (Int.toNat t80 * 1)) (.int .u8 (bitsI .xor .u8 t86 255)))

def S3_k10 (head : Bool) (w_ : Option Addr) (all_a : Option Addr) (all_l : Nat) (all_c : Nat) (same : Bool) (w : World) (R : Value → World → Prop) : Prop :=
  cond head (
    cond same (
      Calls Try.prog 18 ⟨[(.pointer w_)]⟩ w.drew fun e w__1 =>
        ∃ (t96_a : Option Addr) (t96_l : Nat) (t96_c : Nat),
        e = .returned (.slice t96_a t96_l t96_c) ∧
        (
          ∃ (t97 : ByteArray) (w__2 : World),
          (convert 37 9 (.slice t96_a t96_l t96_c)).run Try.prog w__1 = .ok (.string t97) w__2 ∧
          Calls Try.prog 19 ⟨[(.slice all_a all_l all_c)]⟩ w__2 fun e w__3 =>
            ∃ (t99_a : Option Addr) (t99_l : Nat) (t99_c : Nat),
            e = .returned (.slice t99_a t99_l t99_c) ∧
            ∃ (t100 : ByteArray) (w__4 : World),
            (convert 37 9 (.slice t99_a t99_l t99_c)).run Try.prog w__3 = .ok (.string t100) w__4 ∧
            R (.bool (decide ((t97 : ByteArray) = t100))) w__4
        ) ∧
        (
          Calls Try.prog 19 ⟨[(.slice all_a all_l all_c)]⟩ w__1 fun e w__5 =>
            ∃ (t99_a_1 : Option Addr) (t99_l_1 : Nat) (t99_c_1 : Nat),
            e = .returned (.slice t99_a_1 t99_l_1 t99_c_1) ∧
            (
              ∃ (t97_1 : ByteArray) (w__6 : World),
              (convert 37 9 (.slice t96_a t96_l t96_c)).run Try.prog w__5 = .ok (.string t97_1) w__6 ∧
              ∃ (t100_1 : ByteArray) (w__7 : World),
              (convert 37 9 (.slice t99_a_1 t99_l_1 t99_c_1)).run Try.prog w__6 = .ok (.string t100_1) w__7 ∧
              R (.bool (decide ((t97_1 : ByteArray) = t100_1))) w__7
            ) ∧
            (
              ∃ (t100_2 : ByteArray) (w__8 : World),
              (convert 37 9 (.slice t99_a_1 t99_l_1 t99_c_1)).run Try.prog w__5 = .ok (.string t100_2) w__8 ∧
              ∃ (t97_2 : ByteArray) (w__9 : World),
              (convert 37 9 (.slice t96_a t96_l t96_c)).run Try.prog w__8 = .ok (.string t97_2) w__9 ∧
              R (.bool (decide ((t97_2 : ByteArray) = t100_2))) w__9
            )
        )
    ) (
      (
        R (.bool false) w.drew
      ) ∧
      (
        (
          R (.bool false) w.drew
        ) ∧
        (
          R (.bool false) w.drew
        )
      )
    )
  ) (
    (
      R (.bool false) w.drew
    ) ∧
    (
      (
        R (.bool false) w.drew
      ) ∧
      (
        R (.bool false) w.drew
      )
    )
  )

def S3_L8 (head : Bool) (w_ : Option Addr) (all_a : Option Addr) (all_l : Nat) (all_c : Nat) (b_a : Option Addr) (b_l : Nat) (b_c : Nat) (same : Bool) (t79 : Int) (t80 : Int) (w : World) (R : Value → World → Prop) (B1 : (Int) × Unit → World → Prop) : Prop :=
  cond (decide ((t80 : Int) < t79)) (
    S3_k9 head w_ all_a all_l all_c b_a b_l b_c same t79 t80 w R B1
  ) (
    S3_k10 head w_ all_a all_l all_c same w R
  )

def S3_k7 (head : Bool) (w_ : Option Addr) (all_a : Option Addr) (all_l : Nat) (all_c : Nat) (b_a : Option Addr) (b_l : Nat) (b_c : Nat) (same : Bool) (w : World) (R : Value → World → Prop) : Prop :=
  ∃ (I : (Int) × Unit → World → Prop) (μ : (Int) × Unit → World → Nat),
  I (0, ()) w ∧
  ∀ (J : Env) (s : (Int) × Unit) (w' : World), I s w' →
    S3_L8 head w_ all_a all_l all_c b_a b_l b_c same ((b_l : Nat) : Int) s.1 w' R (fun s' w'' => I s' w'' ∧ μ s' w'' < μ s w')

def S3_k6 (head : Bool) (w_ : Option Addr) (all_a : Option Addr) (all_l : Nat) (all_c : Nat) (w : World) (R : Value → World → Prop) : Prop :=
  Calls Try.prog 18 ⟨[(.pointer w_)]⟩ w fun e w__1 =>
    ∃ (t71_a : Option Addr) (t71_l : Nat) (t71_c : Nat),
    e = .returned (.slice t71_a t71_l t71_c) ∧
    (
      ∃ (t73 : ByteArray) (w__2 : World),
      (convert 37 9 (.slice t71_a t71_l t71_c)).run Try.prog w__1.drew = .ok (.string t73) w__2 ∧
      Calls Try.prog 19 ⟨[(.slice all_a all_l all_c)]⟩ w__2 fun e w__3 =>
        ∃ (t75_a : Option Addr) (t75_l : Nat) (t75_c : Nat),
        e = .returned (.slice t75_a t75_l t75_c) ∧
        ∃ (t76 : ByteArray) (w__4 : World),
        (convert 37 9 (.slice t75_a t75_l t75_c)).run Try.prog w__3 = .ok (.string t76) w__4 ∧
        S3_k7 head w_ all_a all_l all_c t71_a t71_l t71_c (decide ((t73 : ByteArray) = t76)) w__4 R
    ) ∧
    (
      Calls Try.prog 19 ⟨[(.slice all_a all_l all_c)]⟩ w__1.drew fun e w__5 =>
        ∃ (t75_a_1 : Option Addr) (t75_l_1 : Nat) (t75_c_1 : Nat),
        e = .returned (.slice t75_a_1 t75_l_1 t75_c_1) ∧
        (
          ∃ (t73_1 : ByteArray) (w__6 : World),
          (convert 37 9 (.slice t71_a t71_l t71_c)).run Try.prog w__5 = .ok (.string t73_1) w__6 ∧
          ∃ (t76_1 : ByteArray) (w__7 : World),
          (convert 37 9 (.slice t75_a_1 t75_l_1 t75_c_1)).run Try.prog w__6 = .ok (.string t76_1) w__7 ∧
          S3_k7 head w_ all_a all_l all_c t71_a t71_l t71_c (decide ((t73_1 : ByteArray) = t76_1)) w__7 R
        ) ∧
        (
          ∃ (t76_2 : ByteArray) (w__8 : World),
          (convert 37 9 (.slice t75_a_1 t75_l_1 t75_c_1)).run Try.prog w__5 = .ok (.string t76_2) w__8 ∧
          ∃ (t73_2 : ByteArray) (w__9 : World),
          (convert 37 9 (.slice t71_a t71_l t71_c)).run Try.prog w__8 = .ok (.string t73_2) w__9 ∧
          S3_k7 head w_ all_a all_l all_c t71_a t71_l t71_c (decide ((t73_2 : ByteArray) = t76_2)) w__9 R
        )
    )

def S3_L1 (head : Bool) (w_ : Option Addr) (all_a : Option Addr) (all_l : Nat) (all_c : Nat) (t18_a : Option Addr) (t18_l : Nat) (t18_c : Nat) (t19 : Int) (t20 : Int) (w : World) (R : Value → World → Prop) (B1 : (Option Addr × Nat × Nat) × (Int) × Unit → World → Prop) : Prop :=
  cond (decide ((t20 : Int) < t19)) (
    S3_k2 head w_ all_a all_l all_c t18_a t18_l t18_c t19 t20 w R B1
  ) (
    S3_k6 head w_ all_a all_l all_c w R
  )

def S3_k0 (l_a : Option Addr) (l_l : Nat) (l_c : Nat) (head : Bool) (w_ : Option Addr) (w : World) (R : Value → World → Prop) : Prop :=
  Calls Try.prog 12 ⟨[(.slice l_a l_l l_c)]⟩ w fun e w__1 =>
    ∃ (t18_a : Option Addr) (t18_l : Nat) (t18_c : Nat),
    e = .returned (.slice t18_a t18_l t18_c) ∧
    ∃ (I : (Option Addr × Nat × Nat) × (Int) × Unit → World → Prop) (μ : (Option Addr × Nat × Nat) × (Int) × Unit → World → Nat),
    I ((none, 0, 0), 0, ()) w__1 ∧
    ∀ (J : Env) (s : (Option Addr × Nat × Nat) × (Int) × Unit) (w' : World), I s w' →
      S3_L1 head w_ s.1.1 s.1.2.1 s.1.2.2 t18_a t18_l t18_c ((t18_l : Nat) : Int) s.2.1 w' R (fun s' w'' => I s' w'' ∧ μ s' w'' < μ s w')

def S3 (l_a : Option Addr) (l_l : Nat) (l_c : Nat) (w : World) (R : Value → World → Prop) : Prop :=
  Calls Try.prog 10 ⟨[]⟩ w fun e w_ =>
    ∃ (t13 : Bool),
    e = .returned (.bool t13) ∧
    Calls Try.prog 11 ⟨[]⟩ w_ fun e w__1 =>
      ∃ (t14 : Option Addr),
      e = .returned (.pointer t14) ∧
      cond (Option.isNone t14) (
        R (.bool false) w__1
      ) (
        S3_k0 l_a l_l l_c t13 t14 w__1 R
      )

theorem S3_eq (l_a : Option Addr) (l_l : Nat) (l_c : Nat) (w : World) (R : Value → World → Prop) : Eng.R Try.prog ⟨cal, S3_nx⟩ 103 S3_ann [] (Try.f3.body.getD .skip) (bodyQ Try.prog #[.tmp 2] R) (argE [(.slice l_a l_l l_c)]) w = S3 l_a l_l l_c w R := by kernel_rfl
/-- A call of 'carfax/carfaxlaw01.BitsLays', by its condition. -/
theorem S3_calls {l_a : Option Addr} {l_l : Nat} {l_c : Nat} {w : World} {R : Value → World → Prop} (hS : S3 l_a l_l l_c w R) : Ret Try.prog 3 [(.slice l_a l_l l_c)] w R :=
  R_calls (C := ⟨cal, S3_nx⟩) cal_ok follows Try.func3 (c := Try.f3.body.getD .skip) (res := #[.tmp 2]) (n := 103) (by kernel_rfl) (by kernel_rfl) (by kernel_rfl) (by kernel_rfl) ((S3_eq l_a l_l l_c w R).mpr hS)

def S4_ann (p : List Nat) : Option LA := match p with
  | [0, 1, 0, 1, 1, 1, 1, 1] => some ⟨[0, 5, 6, 7, 18], [(19, .one (.int .i64))]⟩
  | _ => none

def S4_nx (t : Nat) : Option (TypeId × TypeId) := none

def S4_k2 (n_ : Int) (head : Bool) (w_ : Option Addr) (left : Int) (t18 : Int) (t19 : Int) (w : World) (R : Value → World → Prop) (B1 : (Int) × Unit → World → Prop) : Prop :=
  Calls Try.prog 15 ⟨[(.pointer w_), (.int .u64 n_), (.int .i64 64)]⟩ w fun e w__1 =>
    ∃ (t23 : Int),
    e = .returned (.int .i64 t23) ∧
    cond (!decide ((t23 : Int) = 0)) (
      R (.bool false) w__1
    ) (
      B1 ((IntKind.i64.wrap (t19 + 1)), ()) w__1
    )

def S4_k6 (head : Bool) (w_ : Option Addr) (left : Int) (e_1 : Int) (w : World) (R : Value → World → Prop) : Prop :=
  cond head (
    cond (decide ((e_1 : Int) = 0)) (
      R (.bool true) w
    ) (
      cond (decide ((e_1 : Int) = 4)) (
        Calls Try.prog 17 ⟨[(.pointer w_)]⟩ w fun e w__1 =>
          ∃ (t60 : Int),
          e = .returned (.int .i64 t60) ∧
          cond (decide ((t60 : Int) = (IntKind.i64.wrap (1048576 - left)))) (
            Calls Try.prog 18 ⟨[(.pointer w_)]⟩ w__1 fun e w__2 =>
              ∃ (t67_a : Option Addr) (t67_l : Nat) (t67_c : Nat),
              e = .returned (.slice t67_a t67_l t67_c) ∧
              (8 : Int) ≠ 0 ∧
              R (.bool (decide ((((t67_l : Nat) : Int) : Int) = (IntKind.i64.wrap (Int.tdiv (IntKind.i64.wrap ((IntKind.i64.wrap (1048576 - left)) + 7)) 8))))) w__2
          ) (
            R (.bool false) w__1
          )
      ) (
        R (.bool false) w
      )
    )
  ) (
    R (.bool false) w
  )

def S4_k5 (n_ : Int) (head : Bool) (w_ : Option Addr) (left : Int) (w : World) (R : Value → World → Prop) : Prop :=
  Calls Try.prog 15 ⟨[(.pointer w_), (.int .u64 n_), (.int .i64 (if 64 < (IntKind.i64.wrap (left + 1)) then 64 else (IntKind.i64.wrap (left + 1))))]⟩ w fun e w__1 =>
    ∃ (t45 : Int),
    e = .returned (.int .i64 t45) ∧
    cond (!((decide ((t45 : Int) = 0)) == (decide ((64 : Int) ≤ left)))) (
      R (.bool false) w__1
    ) (
      S4_k6 head w_ left t45 w__1 R
    )

def S4_k4 (n_ : Int) (head : Bool) (w_ : Option Addr) (left : Int) (t39 : Bool) (w : World) (R : Value → World → Prop) : Prop :=
  cond t39 (
    R (.bool false) w
  ) (
    S4_k5 n_ head w_ left w R
  )

def S4_k3 (n_ : Int) (head : Bool) (w_ : Option Addr) (left : Int) (w : World) (R : Value → World → Prop) : Prop :=
  (64 : Int) ≠ 0 ∧
  Calls Try.prog 15 ⟨[(.pointer w_), (.int .u64 n_), (.int .i64 (Int.tmod (IntKind.i64.wrap (1048576 - left)) 64))]⟩ w fun e w__1 =>
    ∃ (t31 : Int),
    e = .returned (.int .i64 t31) ∧
    cond (!decide ((t31 : Int) = 0)) (
      S4_k4 n_ head w_ left true w__1 R
    ) (
      Calls Try.prog 17 ⟨[(.pointer w_)]⟩ w__1 fun e w__2 =>
        ∃ (t35 : Int),
        e = .returned (.int .i64 t35) ∧
        S4_k4 n_ head w_ left (!decide ((t35 : Int) = (IntKind.i64.wrap (1048576 - left)))) w__2 R
    )

def S4_L1 (n_ : Int) (head : Bool) (w_ : Option Addr) (left : Int) (t18 : Int) (t19 : Int) (w : World) (R : Value → World → Prop) (B1 : (Int) × Unit → World → Prop) : Prop :=
  cond (decide ((t19 : Int) < t18)) (
    S4_k2 n_ head w_ left t18 t19 w R B1
  ) (
    S4_k3 n_ head w_ left w R
  )

def S4_k0 (n_ : Int) (missing : Int) (head : Bool) (w_ : Option Addr) (w : World) (R : Value → World → Prop) : Prop :=
  (201 : Int) ≠ 0 ∧
  (64 : Int) ≠ 0 ∧
  ∃ (I : (Int) × Unit → World → Prop) (μ : (Int) × Unit → World → Nat),
  I (0, ()) w ∧
  ∀ (J : Env) (s : (Int) × Unit) (w' : World), I s w' →
    S4_L1 n_ head w_ (IntKind.i64.wrap (Int.tmod missing 201)) (IntKind.i64.wrap (Int.tdiv (IntKind.i64.wrap (1048576 - (IntKind.i64.wrap (Int.tmod missing 201)))) 64)) s.1 w' R (fun s' w'' => I s' w'' ∧ μ s' w'' < μ s w')

def S4 (n_ : Int) (missing : Int) (w : World) (R : Value → World → Prop) : Prop :=
  Calls Try.prog 10 ⟨[]⟩ w fun e w_ =>
    ∃ (t9 : Bool),
    e = .returned (.bool t9) ∧
    Calls Try.prog 11 ⟨[]⟩ w_ fun e w__1 =>
      ∃ (t10 : Option Addr),
      e = .returned (.pointer t10) ∧
      cond (Option.isNone t10) (
        R (.bool false) w__1
      ) (
        S4_k0 n_ missing t9 t10 w__1 R
      )

theorem S4_eq (n_ : Int) (missing : Int) (w : World) (R : Value → World → Prop) : Eng.R Try.prog ⟨cal, S4_nx⟩ 77 S4_ann [] (Try.f4.body.getD .skip) (bodyQ Try.prog #[.tmp 4] R) (argE [(.int .u64 n_), (.int .u8 missing)]) w = S4 n_ missing w R := by kernel_rfl
/-- A call of 'carfax/carfaxlaw01.BitsFull', by its condition. -/
theorem S4_calls {n_ : Int} {missing : Int} {w : World} {R : Value → World → Prop} (hS : S4 n_ missing w R) : Ret Try.prog 4 [(.int .u64 n_), (.int .u8 missing)] w R :=
  R_calls (C := ⟨cal, S4_nx⟩) cal_ok follows Try.func4 (c := Try.f4.body.getD .skip) (res := #[.tmp 4]) (n := 77) (by kernel_rfl) (by kernel_rfl) (by kernel_rfl) (by kernel_rfl) ((S4_eq n_ missing w R).mpr hS)

def S5_ann (p : List Nat) : Option LA := match p with
  | [0, 1, 0, 1, 1, 1, 1, 1, 1] => some ⟨[1, 5, 6, 7, 8, 28], [(29, .one (.int .i64))]⟩
  | [0, 1, 0, 1, 1, 1, 1, 1, 1, 1] => some ⟨[5, 7, 8, 39, 40], [(41, .one (.int .i64))]⟩
  | _ => none

def S5_nx (t : Nat) : Option (TypeId × TypeId) := none

def S5_k2 (l_a : Option Addr) (l_l : Nat) (l_c : Nat) (head : Bool) (own_a : Option Addr) (own_l : Nat) (own_c : Nat) (r : Option Addr) (v : Option Addr) (t28 : Int) (t29 : Int) (w : World) (R : Value → World → Prop) (B1 : (Int) × Unit → World → Prop) : Prop :=
  ∃ (t34 : Addr),
  own_a = some t34 ∧
  0 ≤ (t29 : Int) ∧
  (t29 : Int) < ((own_l : Nat) : Int) ∧
  ∃ (t35 : Int),
  w.cell? (t34.add (Int.toNat t29 * 1)) = some (.int .u8 t35) ∧
  ∃ (t37 : Addr),
  own_a = some t37 ∧
  0 ≤ (t29 : Int) ∧
  (t29 : Int) < ((own_l : Nat) : Int) ∧
  (∃ u, w.cell? (t37.add (Int.toNat t29 * 1)) = some u) ∧
  w.frozen? (t37.add (Int.toNat t29 * 1)) = false ∧
  B1 ((IntKind.i64.wrap (t29 + 1)), ()) (w.setCell (t37.add (Int.toNat t29 * 1)) (.int .u8 (bitsI .xor .u8 t35 85)))

def S5_k6 (head : Bool) (r : Option Addr) (v : Option Addr) (w : World) (R : Value → World → Prop) : Prop :=
  cond head (
    Calls Try.prog 27 ⟨[(.pointer r)]⟩ w fun e w_ =>
      ∃ (t92 : Int),
      e = .returned (.int .i64 t92) ∧
      Calls Try.prog 28 ⟨[(.pointer v)]⟩ w_ fun e w__1 =>
        ∃ (t94 : Int),
        e = .returned (.int .i64 t94) ∧
        R (.bool (decide ((t92 : Int) = t94))) w__1
  ) (
    R (.bool false) w
  )

def S5_k9 (head : Bool) (r : Option Addr) (v : Option Addr) (t39_a : Option Addr) (t39_l : Nat) (t39_c : Nat) (t40 : Int) (t41 : Int) (t87 : Bool) (w : World) (R : Value → World → Prop) (B1 : (Int) × Unit → World → Prop) : Prop :=
  cond t87 (
    R (.bool false) w
  ) (
    B1 ((IntKind.i64.wrap (t41 + 1)), ()) w
  )

def S5_k8 (head : Bool) (r : Option Addr) (v : Option Addr) (same : Bool) (t39_a : Option Addr) (t39_l : Nat) (t39_c : Nat) (t40 : Int) (t41 : Int) (w : World) (R : Value → World → Prop) (B1 : (Int) × Unit → World → Prop) : Prop :=
  cond (!same) (
    (
      S5_k9 head r v t39_a t39_l t39_c t40 t41 true w.drew R B1
    ) ∧
    (
      (
        S5_k9 head r v t39_a t39_l t39_c t40 t41 true w.drew R B1
      ) ∧
      (
        S5_k9 head r v t39_a t39_l t39_c t40 t41 true w.drew R B1
      )
    ) ∧
    (
      (
        S5_k9 head r v t39_a t39_l t39_c t40 t41 true w.drew R B1
      ) ∧
      (
        S5_k9 head r v t39_a t39_l t39_c t40 t41 true w.drew R B1
      )
    )
  ) (
    ∃ (t70 : Addr),
    v = some t70 ∧
    ∃ (t75 : Addr),
    v = some t75 ∧
    (
      Calls Try.prog 26 ⟨[(.pointer r)]⟩ w.drew fun e w_ =>
        ∃ (t68 : Int),
        e = .returned (.int .i64 t68) ∧
        ∃ (t72_a : Option Addr) (t72_l : Nat) (t72_c : Nat),
        w_.cell? t70 = some (.slice t72_a t72_l t72_c) ∧
        ∃ (t77 : Int),
        w_.cell? (t75.add 1) = some (.int .i64 t77) ∧
        cond (!decide ((t68 : Int) = (IntKind.i64.wrap (((t72_l : Nat) : Int) - t77)))) (
          S5_k9 head r v t39_a t39_l t39_c t40 t41 true w_ R B1
        ) (
          Calls Try.prog 27 ⟨[(.pointer r)]⟩ w_ fun e w__1 =>
            ∃ (t83 : Int),
            e = .returned (.int .i64 t83) ∧
            Calls Try.prog 28 ⟨[(.pointer v)]⟩ w__1 fun e w__2 =>
              ∃ (t85 : Int),
              e = .returned (.int .i64 t85) ∧
              S5_k9 head r v t39_a t39_l t39_c t40 t41 (!decide ((t83 : Int) = t85)) w__2 R B1
        )
    ) ∧
    (
      ∃ (t72_a_1 : Option Addr) (t72_l_1 : Nat) (t72_c_1 : Nat),
      w.drew.cell? t70 = some (.slice t72_a_1 t72_l_1 t72_c_1) ∧
      (
        Calls Try.prog 26 ⟨[(.pointer r)]⟩ w.drew fun e w__3 =>
          ∃ (t68_1 : Int),
          e = .returned (.int .i64 t68_1) ∧
          ∃ (t77_1 : Int),
          w__3.cell? (t75.add 1) = some (.int .i64 t77_1) ∧
          cond (!decide ((t68_1 : Int) = (IntKind.i64.wrap (((t72_l_1 : Nat) : Int) - t77_1)))) (
            S5_k9 head r v t39_a t39_l t39_c t40 t41 true w__3 R B1
          ) (
            Calls Try.prog 27 ⟨[(.pointer r)]⟩ w__3 fun e w__4 =>
              ∃ (t83_1 : Int),
              e = .returned (.int .i64 t83_1) ∧
              Calls Try.prog 28 ⟨[(.pointer v)]⟩ w__4 fun e w__5 =>
                ∃ (t85_1 : Int),
                e = .returned (.int .i64 t85_1) ∧
                S5_k9 head r v t39_a t39_l t39_c t40 t41 (!decide ((t83_1 : Int) = t85_1)) w__5 R B1
          )
      ) ∧
      (
        ∃ (t77_2 : Int),
        w.drew.cell? (t75.add 1) = some (.int .i64 t77_2) ∧
        Calls Try.prog 26 ⟨[(.pointer r)]⟩ w.drew fun e w__6 =>
          ∃ (t68_2 : Int),
          e = .returned (.int .i64 t68_2) ∧
          cond (!decide ((t68_2 : Int) = (IntKind.i64.wrap (((t72_l_1 : Nat) : Int) - t77_2)))) (
            S5_k9 head r v t39_a t39_l t39_c t40 t41 true w__6 R B1
          ) (
            Calls Try.prog 27 ⟨[(.pointer r)]⟩ w__6 fun e w__7 =>
              ∃ (t83_2 : Int),
              e = .returned (.int .i64 t83_2) ∧
              Calls Try.prog 28 ⟨[(.pointer v)]⟩ w__7 fun e w__8 =>
                ∃ (t85_2 : Int),
                e = .returned (.int .i64 t85_2) ∧
                S5_k9 head r v t39_a t39_l t39_c t40 t41 (!decide ((t83_2 : Int) = t85_2)) w__8 R B1
          )
      )
    ) ∧
    (
      ∃ (t77_3 : Int),
      w.drew.cell? (t75.add 1) = some (.int .i64 t77_3) ∧
      (
        Calls Try.prog 26 ⟨[(.pointer r)]⟩ w.drew fun e w__9 =>
          ∃ (t68_3 : Int),
          e = .returned (.int .i64 t68_3) ∧
          ∃ (t72_a_2 : Option Addr) (t72_l_2 : Nat) (t72_c_2 : Nat),
          w__9.cell? t70 = some (.slice t72_a_2 t72_l_2 t72_c_2) ∧
          cond (!decide ((t68_3 : Int) = (IntKind.i64.wrap (((t72_l_2 : Nat) : Int) - t77_3)))) (
            S5_k9 head r v t39_a t39_l t39_c t40 t41 true w__9 R B1
          ) (
            Calls Try.prog 27 ⟨[(.pointer r)]⟩ w__9 fun e w__10 =>
              ∃ (t83_3 : Int),
              e = .returned (.int .i64 t83_3) ∧
              Calls Try.prog 28 ⟨[(.pointer v)]⟩ w__10 fun e w__11 =>
                ∃ (t85_3 : Int),
                e = .returned (.int .i64 t85_3) ∧
                S5_k9 head r v t39_a t39_l t39_c t40 t41 (!decide ((t83_3 : Int) = t85_3)) w__11 R B1
          )
      ) ∧
      (
        ∃ (t72_a_3 : Option Addr) (t72_l_3 : Nat) (t72_c_3 : Nat),
        w.drew.cell? t70 = some (.slice t72_a_3 t72_l_3 t72_c_3) ∧
        Calls Try.prog 26 ⟨[(.pointer r)]⟩ w.drew fun e w__12 =>
          ∃ (t68_4 : Int),
          e = .returned (.int .i64 t68_4) ∧
          cond (!decide ((t68_4 : Int) = (IntKind.i64.wrap (((t72_l_3 : Nat) : Int) - t77_3)))) (
            S5_k9 head r v t39_a t39_l t39_c t40 t41 true w__12 R B1
          ) (
            Calls Try.prog 27 ⟨[(.pointer r)]⟩ w__12 fun e w__13 =>
              ∃ (t83_4 : Int),
              e = .returned (.int .i64 t83_4) ∧
              Calls Try.prog 28 ⟨[(.pointer v)]⟩ w__13 fun e w__14 =>
                ∃ (t85_4 : Int),
                e = .returned (.int .i64 t85_4) ∧
                S5_k9 head r v t39_a t39_l t39_c t40 t41 (!decide ((t83_4 : Int) = t85_4)) w__14 R B1
          )
      )
    )
  )

def S5_k7 (head : Bool) (r : Option Addr) (v : Option Addr) (t : Addr) (t39_a : Option Addr) (t39_l : Nat) (t39_c : Nat) (t40 : Int) (t41 : Int) (w : World) (R : Value → World → Prop) (B1 : (Int) × Unit → World → Prop) : Prop :=
  ∃ (t49 : Bool),
  w.cell? t = some (.bool t49) ∧
  cond t49 (
    Calls Try.prog 22 ⟨[(.pointer r)]⟩ w fun e w_ =>
      ∃ (t51 : Int),
      e = .returned (.int .u64 t51) ∧
      Calls Try.prog 23 ⟨[(.pointer v)]⟩ w_ fun e w__1 =>
        ∃ (t53 : Int),
        e = .returned (.int .u64 t53) ∧
        S5_k8 head r v (decide ((t51 : Int) = t53)) t39_a t39_l t39_c t40 t41 w__1 R B1
  ) (
    ∃ (t57 : Int),
    w.drew.cell? (t.add 1) = some (.int .i64 t57) ∧
    (
      Calls Try.prog 24 ⟨[(.pointer r), (.int .i64 t57)]⟩ w.drew fun e w__2 =>
        ∃ (t58 : Int),
        e = .returned (.int .u64 t58) ∧
        ∃ (t61 : Int),
        w__2.cell? (t.add 1) = some (.int .i64 t61) ∧
        Calls Try.prog 25 ⟨[(.pointer v), (.int .i64 t61)]⟩ w__2 fun e w__3 =>
          ∃ (t62 : Int),
          e = .returned (.int .u64 t62) ∧
          S5_k8 head r v (decide ((t58 : Int) = t62)) t39_a t39_l t39_c t40 t41 w__3 R B1
    ) ∧
    (
      ∃ (t61_1 : Int),
      w.drew.cell? (t.add 1) = some (.int .i64 t61_1) ∧
      Calls Try.prog 24 ⟨[(.pointer r), (.int .i64 t57)]⟩ w.drew fun e w__4 =>
        ∃ (t58_1 : Int),
        e = .returned (.int .u64 t58_1) ∧
        Calls Try.prog 25 ⟨[(.pointer v), (.int .i64 t61_1)]⟩ w__4 fun e w__5 =>
          ∃ (t62_1 : Int),
          e = .returned (.int .u64 t62_1) ∧
          S5_k8 head r v (decide ((t58_1 : Int) = t62_1)) t39_a t39_l t39_c t40 t41 w__5 R B1
    )
  )

def S5_k5 (head : Bool) (r : Option Addr) (v : Option Addr) (t39_a : Option Addr) (t39_l : Nat) (t39_c : Nat) (t40 : Int) (t41 : Int) (w : World) (R : Value → World → Prop) (B1 : (Int) × Unit → World → Prop) : Prop :=
  ∃ (t44 : Addr),
  t39_a = some t44 ∧
  0 ≤ (t41 : Int) ∧
  (t41 : Int) < ((t39_l : Nat) : Int) ∧
  ∃ (t45_0 : Bool),
  w.cell? (t44.add (Int.toNat t41 * 2)) = some (.bool t45_0) ∧
  ∃ (t45_1 : Int),
  w.cell? ((t44.add (Int.toNat t41 * 2)).add 1) = some (.int .i64 t45_1) ∧
  (∃ u, (w.alloc (.cells ⟨[(.bool false), (.int .i64 0)]⟩ 48)).cell? ⟨w.heap.size, 0, none⟩ = some u) ∧
  (w.alloc (.cells ⟨[(.bool false), (.int .i64 0)]⟩ 48)).frozen? ⟨w.heap.size, 0, none⟩ = false ∧
  (∃ u, ((w.alloc (.cells ⟨[(.bool false), (.int .i64 0)]⟩ 48)).setCell ⟨w.heap.size, 0, none⟩ (.bool t45_0)).cell? ⟨w.heap.size, 1, none⟩ = some u) ∧
  ((w.alloc (.cells ⟨[(.bool false), (.int .i64 0)]⟩ 48)).setCell ⟨w.heap.size, 0, none⟩ (.bool t45_0)).frozen? ⟨w.heap.size, 1, none⟩ = false ∧
  cond (decide ((300 : Int) ≤ t41)) (
    S5_k6 head r v (((w.alloc (.cells ⟨[(.bool false), (.int .i64 0)]⟩ 48)).setCell ⟨w.heap.size, 0, none⟩ (.bool t45_0)).setCell ⟨w.heap.size, 1, none⟩ (.int .i64 t45_1)) R
  ) (
    S5_k7 head r v ⟨w.heap.size, 0, none⟩ t39_a t39_l t39_c t40 t41 (((w.alloc (.cells ⟨[(.bool false), (.int .i64 0)]⟩ 48)).setCell ⟨w.heap.size, 0, none⟩ (.bool t45_0)).setCell ⟨w.heap.size, 1, none⟩ (.int .i64 t45_1)) R B1
  )

def S5_L4 (head : Bool) (r : Option Addr) (v : Option Addr) (t39_a : Option Addr) (t39_l : Nat) (t39_c : Nat) (t40 : Int) (t41 : Int) (w : World) (R : Value → World → Prop) (B1 : (Int) × Unit → World → Prop) : Prop :=
  cond (decide ((t41 : Int) < t40)) (
    S5_k5 head r v t39_a t39_l t39_c t40 t41 w R B1
  ) (
    S5_k6 head r v w R
  )

def S5_k3 (l_a : Option Addr) (l_l : Nat) (l_c : Nat) (head : Bool) (r : Option Addr) (v : Option Addr) (w : World) (R : Value → World → Prop) : Prop :=
  ∃ (I : (Int) × Unit → World → Prop) (μ : (Int) × Unit → World → Nat),
  I (0, ()) w ∧
  ∀ (J : Env) (s : (Int) × Unit) (w' : World), I s w' →
    S5_L4 head r v l_a l_l l_c ((l_l : Nat) : Int) s.1 w' R (fun s' w'' => I s' w'' ∧ μ s' w'' < μ s w')

def S5_L1 (l_a : Option Addr) (l_l : Nat) (l_c : Nat) (head : Bool) (own_a : Option Addr) (own_l : Nat) (own_c : Nat) (r : Option Addr) (v : Option Addr) (t28 : Int) (t29 : Int) (w : World) (R : Value → World → Prop) (B1 : (Int) × Unit → World → Prop) : Prop :=
  cond (decide ((t29 : Int) < t28)) (
    S5_k2 l_a l_l l_c head own_a own_l own_c r v t28 t29 w R B1
  ) (
    S5_k3 l_a l_l l_c head r v w R
  )

def S5_k0 (l_a : Option Addr) (l_l : Nat) (l_c : Nat) (head : Bool) (own_a : Option Addr) (own_l : Nat) (own_c : Nat) (r : Option Addr) (w : World) (R : Value → World → Prop) : Prop :=
  Calls Try.prog 21 ⟨[(.slice own_a own_l own_c)]⟩ w fun e w_ =>
    ∃ (t26 : Option Addr),
    e = .returned (.pointer t26) ∧
    ∃ (I : (Int) × Unit → World → Prop) (μ : (Int) × Unit → World → Nat),
    I (0, ()) w_ ∧
    ∀ (J : Env) (s : (Int) × Unit) (w' : World), I s w' →
      S5_L1 l_a l_l l_c head own_a own_l own_c r t26 ((own_l : Nat) : Int) s.1 w' R (fun s' w'' => I s' w'' ∧ μ s' w'' < μ s w')

def S5 (b_a : Option Addr) (b_l : Nat) (b_c : Nat) (l_a : Option Addr) (l_l : Nat) (l_c : Nat) (w : World) (R : Value → World → Prop) : Prop :=
  Calls Try.prog 10 ⟨[]⟩ w fun e w_ =>
    ∃ (t13 : Bool),
    e = .returned (.bool t13) ∧
    0 ≤ ((if 1000 < ((b_l : Nat) : Int) then 1000 else ((b_l : Nat) : Int)) : Int) ∧
    ((if 1000 < ((b_l : Nat) : Int) then 1000 else ((b_l : Nat) : Int)) : Int) ≤ ((b_c : Nat) : Int) ∧
    ∃ (t20_a : Option Addr) (t20_l : Nat) (t20_c : Nat) (w__1 : World),
    (Builtin.append_ #[37, 37] 37 ⟨[(.slice (some ⟨w_.heap.size, 0, none⟩) 0 0), (.slice (slAddr b_a b_c 0 1) ((Int.toNat (if 1000 < ((b_l : Nat) : Int) then 1000 else ((b_l : Nat) : Int))) - 0) (b_c - 0))]⟩).run Try.prog (w_.alloc (.cells ⟨[]⟩ 5)) = .ok (.slice t20_a t20_l t20_c) w__1 ∧
    Calls Try.prog 20 ⟨[(.slice t20_a t20_l t20_c)]⟩ w__1 fun e w__2 =>
      ∃ (t22 : Option Addr),
      e = .returned (.pointer t22) ∧
      cond (Option.isNone t22) (
        R (.bool false) w__2
      ) (
        S5_k0 l_a l_l l_c t13 t20_a t20_l t20_c t22 w__2 R
      )

theorem S5_eq (b_a : Option Addr) (b_l : Nat) (b_c : Nat) (l_a : Option Addr) (l_l : Nat) (l_c : Nat) (w : World) (R : Value → World → Prop) : Eng.R Try.prog ⟨cal, S5_nx⟩ 97 S5_ann [] (Try.f5.body.getD .skip) (bodyQ Try.prog #[.tmp 4] R) (argE [(.slice b_a b_l b_c), (.slice l_a l_l l_c)]) w = S5 b_a b_l b_c l_a l_l l_c w R := by kernel_rfl
/-- A call of 'carfax/carfaxlaw01.BitsTakes', by its condition. -/
theorem S5_calls {b_a : Option Addr} {b_l : Nat} {b_c : Nat} {l_a : Option Addr} {l_l : Nat} {l_c : Nat} {w : World} {R : Value → World → Prop} (hS : S5 b_a b_l b_c l_a l_l l_c w R) : Ret Try.prog 5 [(.slice b_a b_l b_c), (.slice l_a l_l l_c)] w R :=
  R_calls (C := ⟨cal, S5_nx⟩) cal_ok follows Try.func5 (c := Try.f5.body.getD .skip) (res := #[.tmp 4]) (n := 97) (by kernel_rfl) (by kernel_rfl) (by kernel_rfl) (by kernel_rfl) ((S5_eq b_a b_l b_c l_a l_l l_c w R).mpr hS)

def S6_ann (p : List Nat) : Option LA := match p with
  | [0, 1, 0, 1, 1, 1, 1] => some ⟨[0, 3, 4, 15, 16], [(17, .one (.int .i64))]⟩
  | [0, 1, 0, 1, 1, 1, 1, 1, 1, 1] => some ⟨[3, 7, 39, 40], [(41, .one (.int .i64))]⟩
  | _ => none

def S6_nx (t : Nat) : Option (TypeId × TypeId) := none

def S6_k2 (l_a : Option Addr) (l_l : Nat) (l_c : Nat) (head : Bool) (w_ : Option Addr) (t15_a : Option Addr) (t15_l : Nat) (t15_c : Nat) (t16 : Int) (t17 : Int) (w : World) (R : Value → World → Prop) (B1 : (Int) × Unit → World → Prop) : Prop :=
  ∃ (t19 : Addr),
  t15_a = some t19 ∧
  0 ≤ (t17 : Int) ∧
  (t17 : Int) < ((t15_l : Nat) : Int) ∧
  ∃ (t20_0 : Bool),
  w.cell? (t19.add (Int.toNat t17 * 3)) = some (.bool t20_0) ∧
  ∃ (t20_1 : Int),
  w.cell? ((t19.add (Int.toNat t17 * 3)).add 1) = some (.int .u64 t20_1) ∧
  ∃ (t20_2 : Int),
  w.cell? ((t19.add (Int.toNat t17 * 3)).add 2) = some (.int .i64 t20_2) ∧
  (∃ u, (w.alloc (.cells ⟨[(.bool false), (.int .u64 0), (.int .i64 0)]⟩ 30)).cell? ⟨w.heap.size, 0, none⟩ = some u) ∧
  (w.alloc (.cells ⟨[(.bool false), (.int .u64 0), (.int .i64 0)]⟩ 30)).frozen? ⟨w.heap.size, 0, none⟩ = false ∧
  (∃ u, ((w.alloc (.cells ⟨[(.bool false), (.int .u64 0), (.int .i64 0)]⟩ 30)).setCell ⟨w.heap.size, 0, none⟩ (.bool t20_0)).cell? ⟨w.heap.size, 1, none⟩ = some u) ∧
  ((w.alloc (.cells ⟨[(.bool false), (.int .u64 0), (.int .i64 0)]⟩ 30)).setCell ⟨w.heap.size, 0, none⟩ (.bool t20_0)).frozen? ⟨w.heap.size, 1, none⟩ = false ∧
  (∃ u, (((w.alloc (.cells ⟨[(.bool false), (.int .u64 0), (.int .i64 0)]⟩ 30)).setCell ⟨w.heap.size, 0, none⟩ (.bool t20_0)).setCell ⟨w.heap.size, 1, none⟩ (.int .u64 t20_1)).cell? ⟨w.heap.size, 2, none⟩ = some u) ∧
  (((w.alloc (.cells ⟨[(.bool false), (.int .u64 0), (.int .i64 0)]⟩ 30)).setCell ⟨w.heap.size, 0, none⟩ (.bool t20_0)).setCell ⟨w.heap.size, 1, none⟩ (.int .u64 t20_1)).frozen? ⟨w.heap.size, 2, none⟩ = false ∧
  ∃ (t22 : Bool),
  ((((w.alloc (.cells ⟨[(.bool false), (.int .u64 0), (.int .i64 0)]⟩ 30)).setCell ⟨w.heap.size, 0, none⟩ (.bool t20_0)).setCell ⟨w.heap.size, 1, none⟩ (.int .u64 t20_1)).setCell ⟨w.heap.size, 2, none⟩ (.int .i64 t20_2)).cell? ⟨w.heap.size, 0, none⟩ = some (.bool t22) ∧
  cond t22 (
    ∃ (t25 : Int),
    ((((w.alloc (.cells ⟨[(.bool false), (.int .u64 0), (.int .i64 0)]⟩ 30)).setCell ⟨w.heap.size, 0, none⟩ (.bool t20_0)).setCell ⟨w.heap.size, 1, none⟩ (.int .u64 t20_1)).setCell ⟨w.heap.size, 2, none⟩ (.int .i64 t20_2)).cell? ⟨w.heap.size, 1, none⟩ = some (.int .u64 t25) ∧
    (9223372036854775808 : Int) ≠ 0 ∧
    Calls Try.prog 13 ⟨[(.pointer w_), (.int .u64 (Int.tmod t25 9223372036854775808))]⟩ ((((w.alloc (.cells ⟨[(.bool false), (.int .u64 0), (.int .i64 0)]⟩ 30)).setCell ⟨w.heap.size, 0, none⟩ (.bool t20_0)).setCell ⟨w.heap.size, 1, none⟩ (.int .u64 t20_1)).setCell ⟨w.heap.size, 2, none⟩ (.int .i64 t20_2)) fun e w__1 =>
      ∃ (t27 : Int),
      e = .returned (.int .i64 t27) ∧
      B1 ((IntKind.i64.wrap (t17 + 1)), ()) w__1
  ) (
    ∃ (t30 : Int),
    ((((w.alloc (.cells ⟨[(.bool false), (.int .u64 0), (.int .i64 0)]⟩ 30)).setCell ⟨w.heap.size, 0, none⟩ (.bool t20_0)).setCell ⟨w.heap.size, 1, none⟩ (.int .u64 t20_1)).setCell ⟨w.heap.size, 2, none⟩ (.int .i64 t20_2)).cell? ⟨w.heap.size, 1, none⟩ = some (.int .u64 t30) ∧
    Calls Try.prog 15 ⟨[(.pointer w_), (.int .u64 t30), (.int .i64 64)]⟩ ((((w.alloc (.cells ⟨[(.bool false), (.int .u64 0), (.int .i64 0)]⟩ 30)).setCell ⟨w.heap.size, 0, none⟩ (.bool t20_0)).setCell ⟨w.heap.size, 1, none⟩ (.int .u64 t20_1)).setCell ⟨w.heap.size, 2, none⟩ (.int .i64 t20_2)) fun e w__2 =>
      ∃ (t31 : Int),
      e = .returned (.int .i64 t31) ∧
      B1 ((IntKind.i64.wrap (t17 + 1)), ()) w__2
  )

def S6_k7 (head : Bool) (r : Option Addr) (t39_a : Option Addr) (t39_l : Nat) (t39_c : Nat) (t40 : Int) (t41 : Int) (t66 : Bool) (w : World) (R : Value → World → Prop) (B1 : (Int) × Unit → World → Prop) : Prop :=
  cond t66 (
    R (.bool false) w
  ) (
    B1 ((IntKind.i64.wrap (t41 + 1)), ()) w
  )

def S6_k6 (head : Bool) (r : Option Addr) (t39_a : Option Addr) (t39_l : Nat) (t39_c : Nat) (t40 : Int) (t41 : Int) (w : World) (R : Value → World → Prop) (B1 : (Int) × Unit → World → Prop) : Prop :=
  ∃ (t43 : Addr),
  t39_a = some t43 ∧
  0 ≤ (t41 : Int) ∧
  (t41 : Int) < ((t39_l : Nat) : Int) ∧
  ∃ (t44_0 : Bool),
  w.cell? (t43.add (Int.toNat t41 * 3)) = some (.bool t44_0) ∧
  ∃ (t44_1 : Int),
  w.cell? ((t43.add (Int.toNat t41 * 3)).add 1) = some (.int .u64 t44_1) ∧
  ∃ (t44_2 : Int),
  w.cell? ((t43.add (Int.toNat t41 * 3)).add 2) = some (.int .i64 t44_2) ∧
  (∃ u, (w.alloc (.cells ⟨[(.bool false), (.int .u64 0), (.int .i64 0)]⟩ 30)).cell? ⟨w.heap.size, 0, none⟩ = some u) ∧
  (w.alloc (.cells ⟨[(.bool false), (.int .u64 0), (.int .i64 0)]⟩ 30)).frozen? ⟨w.heap.size, 0, none⟩ = false ∧
  (∃ u, ((w.alloc (.cells ⟨[(.bool false), (.int .u64 0), (.int .i64 0)]⟩ 30)).setCell ⟨w.heap.size, 0, none⟩ (.bool t44_0)).cell? ⟨w.heap.size, 1, none⟩ = some u) ∧
  ((w.alloc (.cells ⟨[(.bool false), (.int .u64 0), (.int .i64 0)]⟩ 30)).setCell ⟨w.heap.size, 0, none⟩ (.bool t44_0)).frozen? ⟨w.heap.size, 1, none⟩ = false ∧
  (∃ u, (((w.alloc (.cells ⟨[(.bool false), (.int .u64 0), (.int .i64 0)]⟩ 30)).setCell ⟨w.heap.size, 0, none⟩ (.bool t44_0)).setCell ⟨w.heap.size, 1, none⟩ (.int .u64 t44_1)).cell? ⟨w.heap.size, 2, none⟩ = some u) ∧
  (((w.alloc (.cells ⟨[(.bool false), (.int .u64 0), (.int .i64 0)]⟩ 30)).setCell ⟨w.heap.size, 0, none⟩ (.bool t44_0)).setCell ⟨w.heap.size, 1, none⟩ (.int .u64 t44_1)).frozen? ⟨w.heap.size, 2, none⟩ = false ∧
  ∃ (t46 : Bool),
  ((((w.alloc (.cells ⟨[(.bool false), (.int .u64 0), (.int .i64 0)]⟩ 30)).setCell ⟨w.heap.size, 0, none⟩ (.bool t44_0)).setCell ⟨w.heap.size, 1, none⟩ (.int .u64 t44_1)).setCell ⟨w.heap.size, 2, none⟩ (.int .i64 t44_2)).drew.cell? ⟨w.heap.size, 0, none⟩ = some (.bool t46) ∧
  cond t46 (
    (
      Calls Try.prog 22 ⟨[(.pointer r)]⟩ ((((w.alloc (.cells ⟨[(.bool false), (.int .u64 0), (.int .i64 0)]⟩ 30)).setCell ⟨w.heap.size, 0, none⟩ (.bool t44_0)).setCell ⟨w.heap.size, 1, none⟩ (.int .u64 t44_1)).setCell ⟨w.heap.size, 2, none⟩ (.int .i64 t44_2)).drew fun e w_ =>
        ∃ (t49 : Int),
        e = .returned (.int .u64 t49) ∧
        ∃ (t51 : Int),
        w_.cell? ⟨w.heap.size, 1, none⟩ = some (.int .u64 t51) ∧
        (9223372036854775808 : Int) ≠ 0 ∧
        cond (!decide ((t49 : Int) = (Int.tmod t51 9223372036854775808))) (
          (
            S6_k7 head r t39_a t39_l t39_c t40 t41 true w_ R B1
          ) ∧
          (
            S6_k7 head r t39_a t39_l t39_c t40 t41 true w_ R B1
          )
        ) (
          ∃ (t57 : Bool),
          w_.cell? ⟨w.heap.size, 0, none⟩ = some (.bool t57) ∧
          cond (!t57) (
            (
              Calls Try.prog 24 ⟨[(.pointer r), (.int .i64 64)]⟩ w_ fun e w__1 =>
                ∃ (t61 : Int),
                e = .returned (.int .u64 t61) ∧
                ∃ (t63 : Int),
                w__1.cell? ⟨w.heap.size, 1, none⟩ = some (.int .u64 t63) ∧
                S6_k7 head r t39_a t39_l t39_c t40 t41 (!decide ((t61 : Int) = t63)) w__1 R B1
            ) ∧
            (
              ∃ (t63_1 : Int),
              w_.cell? ⟨w.heap.size, 1, none⟩ = some (.int .u64 t63_1) ∧
              Calls Try.prog 24 ⟨[(.pointer r), (.int .i64 64)]⟩ w_ fun e w__2 =>
                ∃ (t61_1 : Int),
                e = .returned (.int .u64 t61_1) ∧
                S6_k7 head r t39_a t39_l t39_c t40 t41 (!decide ((t61_1 : Int) = t63_1)) w__2 R B1
            )
          ) (
            (
              S6_k7 head r t39_a t39_l t39_c t40 t41 false w_ R B1
            ) ∧
            (
              S6_k7 head r t39_a t39_l t39_c t40 t41 false w_ R B1
            )
          )
        )
    ) ∧
    (
      ∃ (t51_1 : Int),
      ((((w.alloc (.cells ⟨[(.bool false), (.int .u64 0), (.int .i64 0)]⟩ 30)).setCell ⟨w.heap.size, 0, none⟩ (.bool t44_0)).setCell ⟨w.heap.size, 1, none⟩ (.int .u64 t44_1)).setCell ⟨w.heap.size, 2, none⟩ (.int .i64 t44_2)).drew.cell? ⟨w.heap.size, 1, none⟩ = some (.int .u64 t51_1) ∧
      (9223372036854775808 : Int) ≠ 0 ∧
      Calls Try.prog 22 ⟨[(.pointer r)]⟩ ((((w.alloc (.cells ⟨[(.bool false), (.int .u64 0), (.int .i64 0)]⟩ 30)).setCell ⟨w.heap.size, 0, none⟩ (.bool t44_0)).setCell ⟨w.heap.size, 1, none⟩ (.int .u64 t44_1)).setCell ⟨w.heap.size, 2, none⟩ (.int .i64 t44_2)).drew fun e w__3 =>
        ∃ (t49_1 : Int),
        e = .returned (.int .u64 t49_1) ∧
        cond (!decide ((t49_1 : Int) = (Int.tmod t51_1 9223372036854775808))) (
          (
            S6_k7 head r t39_a t39_l t39_c t40 t41 true w__3 R B1
          ) ∧
          (
            S6_k7 head r t39_a t39_l t39_c t40 t41 true w__3 R B1
          )
        ) (
          ∃ (t57_1 : Bool),
          w__3.cell? ⟨w.heap.size, 0, none⟩ = some (.bool t57_1) ∧
          cond (!t57_1) (
            (
              Calls Try.prog 24 ⟨[(.pointer r), (.int .i64 64)]⟩ w__3 fun e w__4 =>
                ∃ (t61_2 : Int),
                e = .returned (.int .u64 t61_2) ∧
                ∃ (t63_2 : Int),
                w__4.cell? ⟨w.heap.size, 1, none⟩ = some (.int .u64 t63_2) ∧
                S6_k7 head r t39_a t39_l t39_c t40 t41 (!decide ((t61_2 : Int) = t63_2)) w__4 R B1
            ) ∧
            (
              ∃ (t63_3 : Int),
              w__3.cell? ⟨w.heap.size, 1, none⟩ = some (.int .u64 t63_3) ∧
              Calls Try.prog 24 ⟨[(.pointer r), (.int .i64 64)]⟩ w__3 fun e w__5 =>
                ∃ (t61_3 : Int),
                e = .returned (.int .u64 t61_3) ∧
                S6_k7 head r t39_a t39_l t39_c t40 t41 (!decide ((t61_3 : Int) = t63_3)) w__5 R B1
            )
          ) (
            (
              S6_k7 head r t39_a t39_l t39_c t40 t41 false w__3 R B1
            ) ∧
            (
              S6_k7 head r t39_a t39_l t39_c t40 t41 false w__3 R B1
            )
          )
        )
    )
  ) (
    (
      ∃ (t57_2 : Bool),
      ((((w.alloc (.cells ⟨[(.bool false), (.int .u64 0), (.int .i64 0)]⟩ 30)).setCell ⟨w.heap.size, 0, none⟩ (.bool t44_0)).setCell ⟨w.heap.size, 1, none⟩ (.int .u64 t44_1)).setCell ⟨w.heap.size, 2, none⟩ (.int .i64 t44_2)).drew.cell? ⟨w.heap.size, 0, none⟩ = some (.bool t57_2) ∧
      cond (!t57_2) (
        (
          Calls Try.prog 24 ⟨[(.pointer r), (.int .i64 64)]⟩ ((((w.alloc (.cells ⟨[(.bool false), (.int .u64 0), (.int .i64 0)]⟩ 30)).setCell ⟨w.heap.size, 0, none⟩ (.bool t44_0)).setCell ⟨w.heap.size, 1, none⟩ (.int .u64 t44_1)).setCell ⟨w.heap.size, 2, none⟩ (.int .i64 t44_2)).drew fun e w__6 =>
            ∃ (t61_4 : Int),
            e = .returned (.int .u64 t61_4) ∧
            ∃ (t63_4 : Int),
            w__6.cell? ⟨w.heap.size, 1, none⟩ = some (.int .u64 t63_4) ∧
            S6_k7 head r t39_a t39_l t39_c t40 t41 (!decide ((t61_4 : Int) = t63_4)) w__6 R B1
        ) ∧
        (
          ∃ (t63_5 : Int),
          ((((w.alloc (.cells ⟨[(.bool false), (.int .u64 0), (.int .i64 0)]⟩ 30)).setCell ⟨w.heap.size, 0, none⟩ (.bool t44_0)).setCell ⟨w.heap.size, 1, none⟩ (.int .u64 t44_1)).setCell ⟨w.heap.size, 2, none⟩ (.int .i64 t44_2)).drew.cell? ⟨w.heap.size, 1, none⟩ = some (.int .u64 t63_5) ∧
          Calls Try.prog 24 ⟨[(.pointer r), (.int .i64 64)]⟩ ((((w.alloc (.cells ⟨[(.bool false), (.int .u64 0), (.int .i64 0)]⟩ 30)).setCell ⟨w.heap.size, 0, none⟩ (.bool t44_0)).setCell ⟨w.heap.size, 1, none⟩ (.int .u64 t44_1)).setCell ⟨w.heap.size, 2, none⟩ (.int .i64 t44_2)).drew fun e w__7 =>
            ∃ (t61_5 : Int),
            e = .returned (.int .u64 t61_5) ∧
            S6_k7 head r t39_a t39_l t39_c t40 t41 (!decide ((t61_5 : Int) = t63_5)) w__7 R B1
        )
      ) (
        (
          S6_k7 head r t39_a t39_l t39_c t40 t41 false ((((w.alloc (.cells ⟨[(.bool false), (.int .u64 0), (.int .i64 0)]⟩ 30)).setCell ⟨w.heap.size, 0, none⟩ (.bool t44_0)).setCell ⟨w.heap.size, 1, none⟩ (.int .u64 t44_1)).setCell ⟨w.heap.size, 2, none⟩ (.int .i64 t44_2)).drew R B1
        ) ∧
        (
          S6_k7 head r t39_a t39_l t39_c t40 t41 false ((((w.alloc (.cells ⟨[(.bool false), (.int .u64 0), (.int .i64 0)]⟩ 30)).setCell ⟨w.heap.size, 0, none⟩ (.bool t44_0)).setCell ⟨w.heap.size, 1, none⟩ (.int .u64 t44_1)).setCell ⟨w.heap.size, 2, none⟩ (.int .i64 t44_2)).drew R B1
        )
      )
    ) ∧
    (
      ∃ (t57_3 : Bool),
      ((((w.alloc (.cells ⟨[(.bool false), (.int .u64 0), (.int .i64 0)]⟩ 30)).setCell ⟨w.heap.size, 0, none⟩ (.bool t44_0)).setCell ⟨w.heap.size, 1, none⟩ (.int .u64 t44_1)).setCell ⟨w.heap.size, 2, none⟩ (.int .i64 t44_2)).drew.cell? ⟨w.heap.size, 0, none⟩ = some (.bool t57_3) ∧
      cond (!t57_3) (
        (
          Calls Try.prog 24 ⟨[(.pointer r), (.int .i64 64)]⟩ ((((w.alloc (.cells ⟨[(.bool false), (.int .u64 0), (.int .i64 0)]⟩ 30)).setCell ⟨w.heap.size, 0, none⟩ (.bool t44_0)).setCell ⟨w.heap.size, 1, none⟩ (.int .u64 t44_1)).setCell ⟨w.heap.size, 2, none⟩ (.int .i64 t44_2)).drew fun e w__8 =>
            ∃ (t61_6 : Int),
            e = .returned (.int .u64 t61_6) ∧
            ∃ (t63_6 : Int),
            w__8.cell? ⟨w.heap.size, 1, none⟩ = some (.int .u64 t63_6) ∧
            S6_k7 head r t39_a t39_l t39_c t40 t41 (!decide ((t61_6 : Int) = t63_6)) w__8 R B1
        ) ∧
        (
          ∃ (t63_7 : Int),
          ((((w.alloc (.cells ⟨[(.bool false), (.int .u64 0), (.int .i64 0)]⟩ 30)).setCell ⟨w.heap.size, 0, none⟩ (.bool t44_0)).setCell ⟨w.heap.size, 1, none⟩ (.int .u64 t44_1)).setCell ⟨w.heap.size, 2, none⟩ (.int .i64 t44_2)).drew.cell? ⟨w.heap.size, 1, none⟩ = some (.int .u64 t63_7) ∧
          Calls Try.prog 24 ⟨[(.pointer r), (.int .i64 64)]⟩ ((((w.alloc (.cells ⟨[(.bool false), (.int .u64 0), (.int .i64 0)]⟩ 30)).setCell ⟨w.heap.size, 0, none⟩ (.bool t44_0)).setCell ⟨w.heap.size, 1, none⟩ (.int .u64 t44_1)).setCell ⟨w.heap.size, 2, none⟩ (.int .i64 t44_2)).drew fun e w__9 =>
            ∃ (t61_7 : Int),
            e = .returned (.int .u64 t61_7) ∧
            S6_k7 head r t39_a t39_l t39_c t40 t41 (!decide ((t61_7 : Int) = t63_7)) w__9 R B1
        )
      ) (
        (
          S6_k7 head r t39_a t39_l t39_c t40 t41 false ((((w.alloc (.cells ⟨[(.bool false), (.int .u64 0), (.int .i64 0)]⟩ 30)).setCell ⟨w.heap.size, 0, none⟩ (.bool t44_0)).setCell ⟨w.heap.size, 1, none⟩ (.int .u64 t44_1)).setCell ⟨w.heap.size, 2, none⟩ (.int .i64 t44_2)).drew R B1
        ) ∧
        (
          S6_k7 head r t39_a t39_l t39_c t40 t41 false ((((w.alloc (.cells ⟨[(.bool false), (.int .u64 0), (.int .i64 0)]⟩ 30)).setCell ⟨w.heap.size, 0, none⟩ (.bool t44_0)).setCell ⟨w.heap.size, 1, none⟩ (.int .u64 t44_1)).setCell ⟨w.heap.size, 2, none⟩ (.int .i64 t44_2)).drew R B1
        )
      )
    )
  )

def S6_k8 (head : Bool) (r : Option Addr) (w : World) (R : Value → World → Prop) : Prop :=
  cond head (
    Calls Try.prog 27 ⟨[(.pointer r)]⟩ w fun e w_ =>
      ∃ (t71 : Int),
      e = .returned (.int .i64 t71) ∧
      cond (decide ((t71 : Int) = 0)) (
        Calls Try.prog 26 ⟨[(.pointer r)]⟩ w_ fun e w__1 =>
          ∃ (t76 : Int),
          e = .returned (.int .i64 t76) ∧
          R (.bool (decide ((t76 : Int) < 8))) w__1
      ) (
        R (.bool false) w_
      )
  ) (
    R (.bool false) w
  )

def S6_L5 (head : Bool) (r : Option Addr) (t39_a : Option Addr) (t39_l : Nat) (t39_c : Nat) (t40 : Int) (t41 : Int) (w : World) (R : Value → World → Prop) (B1 : (Int) × Unit → World → Prop) : Prop :=
  cond (decide ((t41 : Int) < t40)) (
    S6_k6 head r t39_a t39_l t39_c t40 t41 w R B1
  ) (
    S6_k8 head r w R
  )

def S6_k4 (l_a : Option Addr) (l_l : Nat) (l_c : Nat) (head : Bool) (r : Option Addr) (w : World) (R : Value → World → Prop) : Prop :=
  Calls Try.prog 12 ⟨[(.slice l_a l_l l_c)]⟩ w fun e w_ =>
    ∃ (t39_a : Option Addr) (t39_l : Nat) (t39_c : Nat),
    e = .returned (.slice t39_a t39_l t39_c) ∧
    ∃ (I : (Int) × Unit → World → Prop) (μ : (Int) × Unit → World → Nat),
    I (0, ()) w_ ∧
    ∀ (J : Env) (s : (Int) × Unit) (w' : World), I s w' →
      S6_L5 head r t39_a t39_l t39_c ((t39_l : Nat) : Int) s.1 w' R (fun s' w'' => I s' w'' ∧ μ s' w'' < μ s w')

def S6_k3 (l_a : Option Addr) (l_l : Nat) (l_c : Nat) (head : Bool) (w_ : Option Addr) (w : World) (R : Value → World → Prop) : Prop :=
  Calls Try.prog 18 ⟨[(.pointer w_)]⟩ w fun e w__1 =>
    ∃ (t34_a : Option Addr) (t34_l : Nat) (t34_c : Nat),
    e = .returned (.slice t34_a t34_l t34_c) ∧
    Calls Try.prog 20 ⟨[(.slice t34_a t34_l t34_c)]⟩ w__1 fun e w__2 =>
      ∃ (t35 : Option Addr),
      e = .returned (.pointer t35) ∧
      cond (Option.isNone t35) (
        R (.bool false) w__2
      ) (
        S6_k4 l_a l_l l_c head t35 w__2 R
      )

def S6_L1 (l_a : Option Addr) (l_l : Nat) (l_c : Nat) (head : Bool) (w_ : Option Addr) (t15_a : Option Addr) (t15_l : Nat) (t15_c : Nat) (t16 : Int) (t17 : Int) (w : World) (R : Value → World → Prop) (B1 : (Int) × Unit → World → Prop) : Prop :=
  cond (decide ((t17 : Int) < t16)) (
    S6_k2 l_a l_l l_c head w_ t15_a t15_l t15_c t16 t17 w R B1
  ) (
    S6_k3 l_a l_l l_c head w_ w R
  )

def S6_k0 (l_a : Option Addr) (l_l : Nat) (l_c : Nat) (head : Bool) (w_ : Option Addr) (w : World) (R : Value → World → Prop) : Prop :=
  Calls Try.prog 12 ⟨[(.slice l_a l_l l_c)]⟩ w fun e w__1 =>
    ∃ (t15_a : Option Addr) (t15_l : Nat) (t15_c : Nat),
    e = .returned (.slice t15_a t15_l t15_c) ∧
    ∃ (I : (Int) × Unit → World → Prop) (μ : (Int) × Unit → World → Nat),
    I (0, ()) w__1 ∧
    ∀ (J : Env) (s : (Int) × Unit) (w' : World), I s w' →
      S6_L1 l_a l_l l_c head w_ t15_a t15_l t15_c ((t15_l : Nat) : Int) s.1 w' R (fun s' w'' => I s' w'' ∧ μ s' w'' < μ s w')

def S6 (l_a : Option Addr) (l_l : Nat) (l_c : Nat) (w : World) (R : Value → World → Prop) : Prop :=
  Calls Try.prog 10 ⟨[]⟩ w fun e w_ =>
    ∃ (t10 : Bool),
    e = .returned (.bool t10) ∧
    Calls Try.prog 11 ⟨[]⟩ w_ fun e w__1 =>
      ∃ (t11 : Option Addr),
      e = .returned (.pointer t11) ∧
      cond (Option.isNone t11) (
        R (.bool false) w__1
      ) (
        S6_k0 l_a l_l l_c t10 t11 w__1 R
      )

theorem S6_eq (l_a : Option Addr) (l_l : Nat) (l_c : Nat) (w : World) (R : Value → World → Prop) : Eng.R Try.prog ⟨cal, S6_nx⟩ 79 S6_ann [] (Try.f6.body.getD .skip) (bodyQ Try.prog #[.tmp 2] R) (argE [(.slice l_a l_l l_c)]) w = S6 l_a l_l l_c w R := by kernel_rfl
/-- A call of 'carfax/carfaxlaw01.BitsBack', by its condition. -/
theorem S6_calls {l_a : Option Addr} {l_l : Nat} {l_c : Nat} {w : World} {R : Value → World → Prop} (hS : S6 l_a l_l l_c w R) : Ret Try.prog 6 [(.slice l_a l_l l_c)] w R :=
  R_calls (C := ⟨cal, S6_nx⟩) cal_ok follows Try.func6 (c := Try.f6.body.getD .skip) (res := #[.tmp 2]) (n := 79) (by kernel_rfl) (by kernel_rfl) (by kernel_rfl) (by kernel_rfl) ((S6_eq l_a l_l l_c w R).mpr hS)

def S7_ann (p : List Nat) : Option LA := match p with
  | [0, 1, 0, 1, 1, 1, 1, 1, 1] => some ⟨[1, 5, 7], [(8, .one (.int .i64)), (9, .one (.int .u64))]⟩
  | _ => none

def S7_nx (t : Nat) : Option (TypeId × TypeId) := none

def S7_k3 (cut : Int) (head : Bool) (w_ : Option Addr) (k : Int) (m : Int) (w : World) (R : Value → World → Prop) (B1 : (Int) × (Int) × Unit → World → Prop) : Prop :=
  (2 : Int) ≠ 0 ∧
  B1 ((IntKind.i64.wrap (k + 1)), (IntKind.u64.wrap (Int.tdiv m 2)), ()) w

def S7_k7 (head : Bool) (r : Option Addr) (w : World) (R : Value → World → Prop) : Prop :=
  Calls Try.prog 22 ⟨[(.pointer r)]⟩ w fun e w_ =>
    ∃ (t61 : Int),
    e = .returned (.int .u64 t61) ∧
    cond head (
      cond (decide ((t61 : Int) = 0)) (
        Calls Try.prog 27 ⟨[(.pointer r)]⟩ w_ fun e w__1 =>
          ∃ (t69 : Int),
          e = .returned (.int .i64 t69) ∧
          R (.bool (decide ((t69 : Int) = 10))) w__1
      ) (
        R (.bool false) w_
      )
    ) (
      R (.bool false) w_
    )

def S7_k6 (cut : Int) (head : Bool) (b_a : Option Addr) (b_l : Nat) (b_c : Nat) (w : World) (R : Value → World → Prop) : Prop :=
  (((b_l : Nat) : Int) : Int) ≠ 0 ∧
  0 ≤ ((Int.tmod (IntKind.i64.wrap cut) ((b_l : Nat) : Int)) : Int) ∧
  ((Int.tmod (IntKind.i64.wrap cut) ((b_l : Nat) : Int)) : Int) ≤ ((b_c : Nat) : Int) ∧
  Calls Try.prog 20 ⟨[(.slice (slAddr b_a b_c 0 1) ((Int.toNat (Int.tmod (IntKind.i64.wrap cut) ((b_l : Nat) : Int))) - 0) (b_c - 0))]⟩ w fun e w_ =>
    ∃ (t57 : Option Addr),
    e = .returned (.pointer t57) ∧
    cond (Option.isNone t57) (
      R (.bool false) w_
    ) (
      S7_k7 head t57 w_ R
    )

def S7_k5 (cut : Int) (head : Bool) (b_a : Option Addr) (b_l : Nat) (b_c : Nat) (t49 : Bool) (w : World) (R : Value → World → Prop) : Prop :=
  cond t49 (
    R (.bool false) w
  ) (
    S7_k6 cut head b_a b_l b_c w R
  )

def S7_k4 (cut : Int) (head : Bool) (w_ : Option Addr) (k : Int) (w : World) (R : Value → World → Prop) : Prop :=
  Calls Try.prog 18 ⟨[(.pointer w_)]⟩ w fun e w__1 =>
    ∃ (t34_a : Option Addr) (t34_l : Nat) (t34_c : Nat),
    e = .returned (.slice t34_a t34_l t34_c) ∧
    Calls Try.prog 17 ⟨[(.pointer w_)]⟩ w__1 fun e w__2 =>
      ∃ (t36 : Int),
      e = .returned (.int .i64 t36) ∧
      cond (!decide ((t36 : Int) = (IntKind.i64.wrap ((IntKind.i64.wrap (2 * k)) + 1)))) (
        S7_k5 cut head t34_a t34_l t34_c true w__2 R
      ) (
        (8 : Int) ≠ 0 ∧
        S7_k5 cut head t34_a t34_l t34_c (!decide ((((t34_l : Nat) : Int) : Int) = (IntKind.i64.wrap (Int.tdiv (IntKind.i64.wrap ((IntKind.i64.wrap (2 * k)) + 8)) 8)))) w__2 R
      )

def S7_L2 (cut : Int) (head : Bool) (w_ : Option Addr) (k : Int) (m : Int) (w : World) (R : Value → World → Prop) (B1 : (Int) × (Int) × Unit → World → Prop) : Prop :=
  cond (decide ((1 : Int) < m)) (
    S7_k3 cut head w_ k m w R B1
  ) (
    S7_k4 cut head w_ k w R
  )

def S7_k1 (cut : Int) (head : Bool) (x : Int) (w_ : Option Addr) (w : World) (R : Value → World → Prop) : Prop :=
  ∃ (I : (Int) × (Int) × Unit → World → Prop) (μ : (Int) × (Int) × Unit → World → Nat),
  I (0, (IntKind.u64.wrap (x + 1)), ()) w ∧
  ∀ (J : Env) (s : (Int) × (Int) × Unit) (w' : World), I s w' →
    S7_L2 cut head w_ s.1 s.2.1 w' R (fun s' w'' => I s' w'' ∧ μ s' w'' < μ s w')

def S7_k0 (cut : Int) (head : Bool) (x : Int) (w_ : Option Addr) (t24 : Bool) (w : World) (R : Value → World → Prop) : Prop :=
  cond t24 (
    R (.bool false) w
  ) (
    S7_k1 cut head x w_ w R
  )

def S7 (n_ : Int) (cut : Int) (w : World) (R : Value → World → Prop) : Prop :=
  Calls Try.prog 10 ⟨[]⟩ w fun e w_ =>
    ∃ (t13 : Bool),
    e = .returned (.bool t13) ∧
    (9223372036854775808 : Int) ≠ 0 ∧
    Calls Try.prog 11 ⟨[]⟩ w_ fun e w__1 =>
      ∃ (t16 : Option Addr),
      e = .returned (.pointer t16) ∧
      cond (Option.isNone t16) (
        S7_k0 cut t13 (Int.tmod n_ 9223372036854775808) t16 true w__1 R
      ) (
        Calls Try.prog 13 ⟨[(.pointer t16), (.int .u64 (Int.tmod n_ 9223372036854775808))]⟩ w__1 fun e w__2 =>
          ∃ (t22 : Int),
          e = .returned (.int .i64 t22) ∧
          S7_k0 cut t13 (Int.tmod n_ 9223372036854775808) t16 (!decide ((t22 : Int) = 0)) w__2 R
      )

theorem S7_eq (n_ : Int) (cut : Int) (w : World) (R : Value → World → Prop) : Eng.R Try.prog ⟨cal, S7_nx⟩ 72 S7_ann [] (Try.f7.body.getD .skip) (bodyQ Try.prog #[.tmp 4] R) (argE [(.int .u64 n_), (.int .u8 cut)]) w = S7 n_ cut w R := by kernel_rfl
/-- A call of 'carfax/carfaxlaw01.BitsLong', by its condition. -/
theorem S7_calls {n_ : Int} {cut : Int} {w : World} {R : Value → World → Prop} (hS : S7 n_ cut w R) : Ret Try.prog 7 [(.int .u64 n_), (.int .u8 cut)] w R :=
  R_calls (C := ⟨cal, S7_nx⟩) cal_ok follows Try.func7 (c := Try.f7.body.getD .skip) (res := #[.tmp 4]) (n := 72) (by kernel_rfl) (by kernel_rfl) (by kernel_rfl) (by kernel_rfl) ((S7_eq n_ cut w R).mpr hS)

def S8_ann (p : List Nat) : Option LA := match p with
  | [0, 1, 0, 1, 1, 1, 1, 1, 1] => some ⟨[5, 6, 7, 8, 30], [(31, .one (.int .i64))]⟩
  | [0, 1, 0, 1, 1, 1, 1, 1, 1, 1, 1, 1] => some ⟨[5, 8, 10, 55], [(56, .one (.int .i64))]⟩
  | _ => none

def S8_nx (t : Nat) : Option (TypeId × TypeId) := none

def S8_k3 (head : Bool) (x : Int) (w_ : Option Addr) (b_a : Option Addr) (b_l : Nat) (b_c : Nat) (t30 : Int) (t31 : Int) (w : World) (R : Value → World → Prop) (B1 : (Int) × Unit → World → Prop) : Prop :=
  ∃ (t37 : Addr),
  b_a = some t37 ∧
  0 ≤ (t31 : Int) ∧
  (t31 : Int) < ((b_l : Nat) : Int) ∧
  ∃ (t38 : Int),
  w.cell? (t37.add (Int.toNat t31 * 1)) = some (.int .u8 t38) ∧
  Calls Try.prog 15 ⟨[(.pointer w_), (.int .u64 (IntKind.u64.wrap t38)), (.int .i64 8)]⟩ w fun e w__1 =>
    ∃ (t40 : Int),
    e = .returned (.int .i64 t40) ∧
    cond (!decide ((t40 : Int) = 0)) (
      R (.bool false) w__1
    ) (
      B1 ((IntKind.i64.wrap (t31 + 1)), ()) w__1
    )

def S8_k9 (head : Bool) (b_a : Option Addr) (b_l : Nat) (b_c : Nat) (r : Option Addr) (t55 : Int) (t56 : Int) (t66 : Bool) (w : World) (R : Value → World → Prop) (B1 : (Int) × Unit → World → Prop) : Prop :=
  cond t66 (
    R (.bool false) w
  ) (
    B1 ((IntKind.i64.wrap (t56 + 1)), ()) w
  )

def S8_k8 (head : Bool) (b_a : Option Addr) (b_l : Nat) (b_c : Nat) (r : Option Addr) (t55 : Int) (t56 : Int) (w : World) (R : Value → World → Prop) (B1 : (Int) × Unit → World → Prop) : Prop :=
  ∃ (t63 : Addr),
  b_a = some t63 ∧
  0 ≤ (t56 : Int) ∧
  (t56 : Int) < ((b_l : Nat) : Int) ∧
  (
    Calls Try.prog 24 ⟨[(.pointer r), (.int .i64 8)]⟩ w.drew fun e w_ =>
      ∃ (t60 : Int),
      e = .returned (.int .u64 t60) ∧
      ∃ (t64 : Int),
      w_.cell? (t63.add (Int.toNat t56 * 1)) = some (.int .u8 t64) ∧
      S8_k9 head b_a b_l b_c r t55 t56 (!decide ((t60 : Int) = (IntKind.u64.wrap t64))) w_ R B1
  ) ∧
  (
    ∃ (t64_1 : Int),
    w.drew.cell? (t63.add (Int.toNat t56 * 1)) = some (.int .u8 t64_1) ∧
    Calls Try.prog 24 ⟨[(.pointer r), (.int .i64 8)]⟩ w.drew fun e w__1 =>
      ∃ (t60_1 : Int),
      e = .returned (.int .u64 t60_1) ∧
      S8_k9 head b_a b_l b_c r t55 t56 (!decide ((t60_1 : Int) = (IntKind.u64.wrap t64_1))) w__1 R B1
  )

def S8_k10 (head : Bool) (r : Option Addr) (w : World) (R : Value → World → Prop) : Prop :=
  cond head (
    Calls Try.prog 27 ⟨[(.pointer r)]⟩ w fun e w_ =>
      ∃ (t71 : Int),
      e = .returned (.int .i64 t71) ∧
      R (.bool (decide ((t71 : Int) = 0))) w_
  ) (
    R (.bool false) w
  )

def S8_L7 (head : Bool) (b_a : Option Addr) (b_l : Nat) (b_c : Nat) (r : Option Addr) (t55 : Int) (t56 : Int) (w : World) (R : Value → World → Prop) (B1 : (Int) × Unit → World → Prop) : Prop :=
  cond (decide ((t56 : Int) < t55)) (
    S8_k8 head b_a b_l b_c r t55 t56 w R B1
  ) (
    S8_k10 head r w R
  )

def S8_k6 (head : Bool) (b_a : Option Addr) (b_l : Nat) (b_c : Nat) (r : Option Addr) (w : World) (R : Value → World → Prop) : Prop :=
  ∃ (I : (Int) × Unit → World → Prop) (μ : (Int) × Unit → World → Nat),
  I (0, ()) w ∧
  ∀ (J : Env) (s : (Int) × Unit) (w' : World), I s w' →
    S8_L7 head b_a b_l b_c r ((b_l : Nat) : Int) s.1 w' R (fun s' w'' => I s' w'' ∧ μ s' w'' < μ s w')

def S8_k5 (head : Bool) (b_a : Option Addr) (b_l : Nat) (b_c : Nat) (r : Option Addr) (t53 : Bool) (w : World) (R : Value → World → Prop) : Prop :=
  cond t53 (
    R (.bool false) w
  ) (
    S8_k6 head b_a b_l b_c r w R
  )

def S8_k4 (head : Bool) (x : Int) (w_ : Option Addr) (b_a : Option Addr) (b_l : Nat) (b_c : Nat) (w : World) (R : Value → World → Prop) : Prop :=
  Calls Try.prog 18 ⟨[(.pointer w_)]⟩ w fun e w__1 =>
    ∃ (t44_a : Option Addr) (t44_l : Nat) (t44_c : Nat),
    e = .returned (.slice t44_a t44_l t44_c) ∧
    Calls Try.prog 20 ⟨[(.slice t44_a t44_l t44_c)]⟩ w__1 fun e w__2 =>
      ∃ (t45 : Option Addr),
      e = .returned (.pointer t45) ∧
      cond (Option.isNone t45) (
        S8_k5 head b_a b_l b_c t45 true w__2 R
      ) (
        Calls Try.prog 22 ⟨[(.pointer t45)]⟩ w__2 fun e w__3 =>
          ∃ (t50 : Int),
          e = .returned (.int .u64 t50) ∧
          S8_k5 head b_a b_l b_c t45 (!decide ((t50 : Int) = x)) w__3 R
      )

def S8_L2 (head : Bool) (x : Int) (w_ : Option Addr) (b_a : Option Addr) (b_l : Nat) (b_c : Nat) (t30 : Int) (t31 : Int) (w : World) (R : Value → World → Prop) (B1 : (Int) × Unit → World → Prop) : Prop :=
  cond (decide ((t31 : Int) < t30)) (
    S8_k3 head x w_ b_a b_l b_c t30 t31 w R B1
  ) (
    S8_k4 head x w_ b_a b_l b_c w R
  )

def S8_k1 (behind_a : Option Addr) (behind_l : Nat) (behind_c : Nat) (head : Bool) (x : Int) (w_ : Option Addr) (w : World) (R : Value → World → Prop) : Prop :=
  0 ≤ ((if 1000 < ((behind_l : Nat) : Int) then 1000 else ((behind_l : Nat) : Int)) : Int) ∧
  ((if 1000 < ((behind_l : Nat) : Int) then 1000 else ((behind_l : Nat) : Int)) : Int) ≤ ((behind_c : Nat) : Int) ∧
  ∃ (I : (Int) × Unit → World → Prop) (μ : (Int) × Unit → World → Nat),
  I (0, ()) w ∧
  ∀ (J : Env) (s : (Int) × Unit) (w' : World), I s w' →
    S8_L2 head x w_ (slAddr behind_a behind_c 0 1) ((Int.toNat (if 1000 < ((behind_l : Nat) : Int) then 1000 else ((behind_l : Nat) : Int))) - 0) (behind_c - 0) ((((Int.toNat (if 1000 < ((behind_l : Nat) : Int) then 1000 else ((behind_l : Nat) : Int))) - 0) : Nat) : Int) s.1 w' R (fun s' w'' => I s' w'' ∧ μ s' w'' < μ s w')

def S8_k0 (behind_a : Option Addr) (behind_l : Nat) (behind_c : Nat) (head : Bool) (x : Int) (w_ : Option Addr) (t23 : Bool) (w : World) (R : Value → World → Prop) : Prop :=
  cond t23 (
    R (.bool false) w
  ) (
    S8_k1 behind_a behind_l behind_c head x w_ w R
  )

def S8 (n_ : Int) (behind_a : Option Addr) (behind_l : Nat) (behind_c : Nat) (w : World) (R : Value → World → Prop) : Prop :=
  Calls Try.prog 10 ⟨[]⟩ w fun e w_ =>
    ∃ (t12 : Bool),
    e = .returned (.bool t12) ∧
    (9223372036854775808 : Int) ≠ 0 ∧
    Calls Try.prog 11 ⟨[]⟩ w_ fun e w__1 =>
      ∃ (t15 : Option Addr),
      e = .returned (.pointer t15) ∧
      cond (Option.isNone t15) (
        S8_k0 behind_a behind_l behind_c t12 (Int.tmod n_ 9223372036854775808) t15 true w__1 R
      ) (
        Calls Try.prog 13 ⟨[(.pointer t15), (.int .u64 (Int.tmod n_ 9223372036854775808))]⟩ w__1 fun e w__2 =>
          ∃ (t21 : Int),
          e = .returned (.int .i64 t21) ∧
          S8_k0 behind_a behind_l behind_c t12 (Int.tmod n_ 9223372036854775808) t15 (!decide ((t21 : Int) = 0)) w__2 R
      )

theorem S8_eq (n_ : Int) (behind_a : Option Addr) (behind_l : Nat) (behind_c : Nat) (w : World) (R : Value → World → Prop) : Eng.R Try.prog ⟨cal, S8_nx⟩ 74 S8_ann [] (Try.f8.body.getD .skip) (bodyQ Try.prog #[.tmp 4] R) (argE [(.int .u64 n_), (.slice behind_a behind_l behind_c)]) w = S8 n_ behind_a behind_l behind_c w R := by kernel_rfl
/-- A call of 'carfax/carfaxlaw01.BitsFirst', by its condition. -/
theorem S8_calls {n_ : Int} {behind_a : Option Addr} {behind_l : Nat} {behind_c : Nat} {w : World} {R : Value → World → Prop} (hS : S8 n_ behind_a behind_l behind_c w R) : Ret Try.prog 8 [(.int .u64 n_), (.slice behind_a behind_l behind_c)] w R :=
  R_calls (C := ⟨cal, S8_nx⟩) cal_ok follows Try.func8 (c := Try.f8.body.getD .skip) (res := #[.tmp 4]) (n := 74) (by kernel_rfl) (by kernel_rfl) (by kernel_rfl) (by kernel_rfl) ((S8_eq n_ behind_a behind_l behind_c w R).mpr hS)

def S9_ann (p : List Nat) : Option LA := match p with
  | [0, 1, 0, 1, 1, 1, 1, 1, 1] => some ⟨[5, 7, 34, 35], [(8, .one .bool), (36, .one (.int .i64))]⟩
  | [0, 1, 0, 1, 1, 0, 1, 0, 1, 1, 1, 0, 0, 1, 1, 0, 0, 1, 0, 1, 1, 1, 1, 1, 1] => some ⟨[5, 7, 8, 11, 34, 35, 36], [(13, .one (.int .i64)), (14, .one (.int .u64))]⟩
  | _ => none

def S9_nx (t : Nat) : Option (TypeId × TypeId) := none

def S9_k4 (head : Bool) (r : Option Addr) (ok : Bool) (w : World) (R : Value → World → Prop) : Prop :=
  cond head (
    cond ok (
      R (.bool true) w
    ) (
      Calls Try.prog 27 ⟨[(.pointer r)]⟩ w fun e w_ =>
        ∃ (t124 : Int),
        e = .returned (.int .i64 t124) ∧
        R (.bool (!decide ((t124 : Int) = 0))) w_
    )
  ) (
    R (.bool false) w
  )

def S9_k7 (head : Bool) (r : Option Addr) (ok : Bool) (was : Int) (k : Int) (m : Int) (t34_a : Option Addr) (t34_l : Nat) (t34_c : Nat) (t35 : Int) (t36 : Int) (w : World) (R : Value → World → Prop) (B1 : (Bool) × (Int) × Unit → World → Prop) (B2 : (Int) × (Int) × Unit → World → Prop) : Prop :=
  (2 : Int) ≠ 0 ∧
  B2 ((IntKind.i64.wrap (k + 1)), (IntKind.u64.wrap (Int.tdiv m 2)), ()) w

def S9_k10 (head : Bool) (r : Option Addr) (ok : Bool) (was : Int) (t34_a : Option Addr) (t34_l : Nat) (t34_c : Nat) (t35 : Int) (t36 : Int) (w : World) (R : Value → World → Prop) (B1 : (Bool) × (Int) × Unit → World → Prop) : Prop :=
  cond ok (
    Calls Try.prog 26 ⟨[(.pointer r)]⟩ w fun e w_ =>
      ∃ (t74 : Int),
      e = .returned (.int .i64 t74) ∧
      B1 ((!decide ((was : Int) = t74)), (IntKind.i64.wrap (t36 + 1)), ()) w_
  ) (
    B1 (false, (IntKind.i64.wrap (t36 + 1)), ()) w
  )

def S9_k9 (head : Bool) (r : Option Addr) (ok : Bool) (was : Int) (t34_a : Option Addr) (t34_l : Nat) (t34_c : Nat) (t35 : Int) (t36 : Int) (t69 : Bool) (w : World) (R : Value → World → Prop) (B1 : (Bool) × (Int) × Unit → World → Prop) : Prop :=
  cond t69 (
    R (.bool false) w
  ) (
    S9_k10 head r ok was t34_a t34_l t34_c t35 t36 w R B1
  )

def S9_k8 (head : Bool) (r : Option Addr) (ok : Bool) (was : Int) (k : Int) (t34_a : Option Addr) (t34_l : Nat) (t34_c : Nat) (t35 : Int) (t36 : Int) (w : World) (R : Value → World → Prop) (B1 : (Bool) × (Int) × Unit → World → Prop) : Prop :=
  Calls Try.prog 26 ⟨[(.pointer r)]⟩ w fun e w_ =>
    ∃ (t59 : Int),
    e = .returned (.int .i64 t59) ∧
    cond (!decide (((IntKind.i64.wrap (was - t59)) : Int) = 0)) (
      S9_k9 head r ok was t34_a t34_l t34_c t35 t36 (!decide (((IntKind.i64.wrap (was - t59)) : Int) = (IntKind.i64.wrap ((IntKind.i64.wrap (2 * k)) + 1)))) w_ R B1
    ) (
      S9_k9 head r ok was t34_a t34_l t34_c t35 t36 false w_ R B1
    )

def S9_L6 (head : Bool) (r : Option Addr) (ok : Bool) (was : Int) (k : Int) (m : Int) (t34_a : Option Addr) (t34_l : Nat) (t34_c : Nat) (t35 : Int) (t36 : Int) (w : World) (R : Value → World → Prop) (B1 : (Bool) × (Int) × Unit → World → Prop) (B2 : (Int) × (Int) × Unit → World → Prop) : Prop :=
  cond (decide ((1 : Int) < m)) (
    S9_k7 head r ok was k m t34_a t34_l t34_c t35 t36 w R B1 B2
  ) (
    S9_k8 head r ok was k t34_a t34_l t34_c t35 t36 w R B1
  )

def S9_k13 (head : Bool) (r : Option Addr) (ok : Bool) (t34_a : Option Addr) (t34_l : Nat) (t34_c : Nat) (t35 : Int) (t36 : Int) (t117 : Bool) (w : World) (R : Value → World → Prop) (B1 : (Bool) × (Int) × Unit → World → Prop) : Prop :=
  cond t117 (
    R (.bool false) w
  ) (
    B1 (ok, (IntKind.i64.wrap (t36 + 1)), ()) w
  )

def S9_k12 (head : Bool) (r : Option Addr) (ok : Bool) (t : Addr) (was : Int) (t34_a : Option Addr) (t34_l : Nat) (t34_c : Nat) (t35 : Int) (t36 : Int) (w : World) (R : Value → World → Prop) (B1 : (Bool) × (Int) × Unit → World → Prop) : Prop :=
  cond ok (
    (
      Calls Try.prog 26 ⟨[(.pointer r)]⟩ w.drew fun e w_ =>
        ∃ (t101 : Int),
        e = .returned (.int .i64 t101) ∧
        ∃ (t104 : Int),
        w_.cell? (t.add 1) = some (.int .i64 t104) ∧
        cond (!decide ((t101 : Int) = (IntKind.i64.wrap (was - t104)))) (
          S9_k13 head r ok t34_a t34_l t34_c t35 t36 true w_ R B1
        ) (
          cond (!ok) (
            Calls Try.prog 26 ⟨[(.pointer r)]⟩ w_ fun e w__1 =>
              ∃ (t113 : Int),
              e = .returned (.int .i64 t113) ∧
              S9_k13 head r ok t34_a t34_l t34_c t35 t36 (!decide ((t113 : Int) = was)) w__1 R B1
          ) (
            S9_k13 head r ok t34_a t34_l t34_c t35 t36 false w_ R B1
          )
        )
    ) ∧
    (
      ∃ (t104_1 : Int),
      w.drew.cell? (t.add 1) = some (.int .i64 t104_1) ∧
      Calls Try.prog 26 ⟨[(.pointer r)]⟩ w.drew fun e w__2 =>
        ∃ (t101_1 : Int),
        e = .returned (.int .i64 t101_1) ∧
        cond (!decide ((t101_1 : Int) = (IntKind.i64.wrap (was - t104_1)))) (
          S9_k13 head r ok t34_a t34_l t34_c t35 t36 true w__2 R B1
        ) (
          cond (!ok) (
            Calls Try.prog 26 ⟨[(.pointer r)]⟩ w__2 fun e w__3 =>
              ∃ (t113_1 : Int),
              e = .returned (.int .i64 t113_1) ∧
              S9_k13 head r ok t34_a t34_l t34_c t35 t36 (!decide ((t113_1 : Int) = was)) w__3 R B1
          ) (
            S9_k13 head r ok t34_a t34_l t34_c t35 t36 false w__2 R B1
          )
        )
    )
  ) (
    (
      cond (!ok) (
        Calls Try.prog 26 ⟨[(.pointer r)]⟩ w.drew fun e w__4 =>
          ∃ (t113_2 : Int),
          e = .returned (.int .i64 t113_2) ∧
          S9_k13 head r ok t34_a t34_l t34_c t35 t36 (!decide ((t113_2 : Int) = was)) w__4 R B1
      ) (
        S9_k13 head r ok t34_a t34_l t34_c t35 t36 false w.drew R B1
      )
    ) ∧
    (
      cond (!ok) (
        Calls Try.prog 26 ⟨[(.pointer r)]⟩ w.drew fun e w__5 =>
          ∃ (t113_3 : Int),
          e = .returned (.int .i64 t113_3) ∧
          S9_k13 head r ok t34_a t34_l t34_c t35 t36 (!decide ((t113_3 : Int) = was)) w__5 R B1
      ) (
        S9_k13 head r ok t34_a t34_l t34_c t35 t36 false w.drew R B1
      )
    )
  )

def S9_k11 (head : Bool) (r : Option Addr) (ok : Bool) (t : Addr) (was : Int) (t34_a : Option Addr) (t34_l : Nat) (t34_c : Nat) (t35 : Int) (t36 : Int) (w : World) (R : Value → World → Prop) (B1 : (Bool) × (Int) × Unit → World → Prop) : Prop :=
  ∃ (t79 : Int),
  w.cell? (t.add 1) = some (.int .i64 t79) ∧
  Calls Try.prog 24 ⟨[(.pointer r), (.int .i64 t79)]⟩ w fun e w_ =>
    ∃ (t80 : Int),
    e = .returned (.int .u64 t80) ∧
    cond ok (
      ∃ (t84 : Int),
      w_.cell? (t.add 1) = some (.int .i64 t84) ∧
      cond (decide ((0 : Int) ≤ t84)) (
        ∃ (t89 : Int),
        w_.cell? (t.add 1) = some (.int .i64 t89) ∧
        cond (decide ((t89 : Int) ≤ 64)) (
          ∃ (t94 : Int),
          w_.cell? (t.add 1) = some (.int .i64 t94) ∧
          S9_k12 head r (decide ((t94 : Int) ≤ was)) t was t34_a t34_l t34_c t35 t36 w_ R B1
        ) (
          S9_k12 head r false t was t34_a t34_l t34_c t35 t36 w_ R B1
        )
      ) (
        S9_k12 head r false t was t34_a t34_l t34_c t35 t36 w_ R B1
      )
    ) (
      S9_k12 head r false t was t34_a t34_l t34_c t35 t36 w_ R B1
    )

def S9_k5 (head : Bool) (r : Option Addr) (ok : Bool) (t : Addr) (t34_a : Option Addr) (t34_l : Nat) (t34_c : Nat) (t35 : Int) (t36 : Int) (w : World) (R : Value → World → Prop) (B1 : (Bool) × (Int) × Unit → World → Prop) : Prop :=
  Calls Try.prog 26 ⟨[(.pointer r)]⟩ w fun e w_ =>
    ∃ (t44 : Int),
    e = .returned (.int .i64 t44) ∧
    ∃ (t46 : Bool),
    w_.cell? t = some (.bool t46) ∧
    cond t46 (
      Calls Try.prog 22 ⟨[(.pointer r)]⟩ w_ fun e w__1 =>
        ∃ (t48 : Int),
        e = .returned (.int .u64 t48) ∧
        ∃ (I : (Int) × (Int) × Unit → World → Prop) (μ : (Int) × (Int) × Unit → World → Nat),
        I (0, (IntKind.u64.wrap (t48 + 1)), ()) w__1 ∧
        ∀ (J : Env) (s : (Int) × (Int) × Unit) (w' : World), I s w' →
          S9_L6 head r ok t44 s.1 s.2.1 t34_a t34_l t34_c t35 t36 w' R B1 (fun s' w'' => I s' w'' ∧ μ s' w'' < μ s w')
    ) (
      S9_k11 head r ok t t44 t34_a t34_l t34_c t35 t36 w_ R B1
    )

def S9_k3 (head : Bool) (r : Option Addr) (ok : Bool) (t34_a : Option Addr) (t34_l : Nat) (t34_c : Nat) (t35 : Int) (t36 : Int) (w : World) (R : Value → World → Prop) (B1 : (Bool) × (Int) × Unit → World → Prop) : Prop :=
  ∃ (t39 : Addr),
  t34_a = some t39 ∧
  0 ≤ (t36 : Int) ∧
  (t36 : Int) < ((t34_l : Nat) : Int) ∧
  ∃ (t40_0 : Bool),
  w.cell? (t39.add (Int.toNat t36 * 2)) = some (.bool t40_0) ∧
  ∃ (t40_1 : Int),
  w.cell? ((t39.add (Int.toNat t36 * 2)).add 1) = some (.int .i64 t40_1) ∧
  (∃ u, (w.alloc (.cells ⟨[(.bool false), (.int .i64 0)]⟩ 48)).cell? ⟨w.heap.size, 0, none⟩ = some u) ∧
  (w.alloc (.cells ⟨[(.bool false), (.int .i64 0)]⟩ 48)).frozen? ⟨w.heap.size, 0, none⟩ = false ∧
  (∃ u, ((w.alloc (.cells ⟨[(.bool false), (.int .i64 0)]⟩ 48)).setCell ⟨w.heap.size, 0, none⟩ (.bool t40_0)).cell? ⟨w.heap.size, 1, none⟩ = some u) ∧
  ((w.alloc (.cells ⟨[(.bool false), (.int .i64 0)]⟩ 48)).setCell ⟨w.heap.size, 0, none⟩ (.bool t40_0)).frozen? ⟨w.heap.size, 1, none⟩ = false ∧
  cond (decide ((300 : Int) ≤ t36)) (
    S9_k4 head r ok (((w.alloc (.cells ⟨[(.bool false), (.int .i64 0)]⟩ 48)).setCell ⟨w.heap.size, 0, none⟩ (.bool t40_0)).setCell ⟨w.heap.size, 1, none⟩ (.int .i64 t40_1)) R
  ) (
    S9_k5 head r ok ⟨w.heap.size, 0, none⟩ t34_a t34_l t34_c t35 t36 (((w.alloc (.cells ⟨[(.bool false), (.int .i64 0)]⟩ 48)).setCell ⟨w.heap.size, 0, none⟩ (.bool t40_0)).setCell ⟨w.heap.size, 1, none⟩ (.int .i64 t40_1)) R B1
  )

def S9_L2 (head : Bool) (r : Option Addr) (ok : Bool) (t34_a : Option Addr) (t34_l : Nat) (t34_c : Nat) (t35 : Int) (t36 : Int) (w : World) (R : Value → World → Prop) (B1 : (Bool) × (Int) × Unit → World → Prop) : Prop :=
  cond (decide ((t36 : Int) < t35)) (
    S9_k3 head r ok t34_a t34_l t34_c t35 t36 w R B1
  ) (
    S9_k4 head r ok w R
  )

def S9_k1 (l_a : Option Addr) (l_l : Nat) (l_c : Nat) (head : Bool) (r : Option Addr) (w : World) (R : Value → World → Prop) : Prop :=
  ∃ (I : (Bool) × (Int) × Unit → World → Prop) (μ : (Bool) × (Int) × Unit → World → Nat),
  I (true, 0, ()) w ∧
  ∀ (J : Env) (s : (Bool) × (Int) × Unit) (w' : World), I s w' →
    S9_L2 head r s.1 l_a l_l l_c ((l_l : Nat) : Int) s.2.1 w' R (fun s' w'' => I s' w'' ∧ μ s' w'' < μ s w')

def S9_k0 (l_a : Option Addr) (l_l : Nat) (l_c : Nat) (head : Bool) (r : Option Addr) (t33 : Bool) (w : World) (R : Value → World → Prop) : Prop :=
  cond t33 (
    R (.bool false) w
  ) (
    S9_k1 l_a l_l l_c head r w R
  )

def S9 (b_a : Option Addr) (b_l : Nat) (b_c : Nat) (l_a : Option Addr) (l_l : Nat) (l_c : Nat) (w : World) (R : Value → World → Prop) : Prop :=
  Calls Try.prog 10 ⟨[]⟩ w fun e w_ =>
    ∃ (t16 : Bool),
    e = .returned (.bool t16) ∧
    0 ≤ ((if 1000 < ((b_l : Nat) : Int) then 1000 else ((b_l : Nat) : Int)) : Int) ∧
    ((if 1000 < ((b_l : Nat) : Int) then 1000 else ((b_l : Nat) : Int)) : Int) ≤ ((b_c : Nat) : Int) ∧
    Calls Try.prog 20 ⟨[(.slice (slAddr b_a b_c 0 1) ((Int.toNat (if 1000 < ((b_l : Nat) : Int) then 1000 else ((b_l : Nat) : Int))) - 0) (b_c - 0))]⟩ w_ fun e w__1 =>
      ∃ (t23 : Option Addr),
      e = .returned (.pointer t23) ∧
      cond (Option.isNone t23) (
        S9_k0 l_a l_l l_c t16 t23 true w__1 R
      ) (
        Calls Try.prog 26 ⟨[(.pointer t23)]⟩ w__1 fun e w__2 =>
          ∃ (t28 : Int),
          e = .returned (.int .i64 t28) ∧
          S9_k0 l_a l_l l_c t16 t23 (!decide ((t28 : Int) = (IntKind.i64.wrap (8 * ((((Int.toNat (if 1000 < ((b_l : Nat) : Int) then 1000 else ((b_l : Nat) : Int))) - 0) : Nat) : Int))))) w__2 R
      )

theorem S9_eq (b_a : Option Addr) (b_l : Nat) (b_c : Nat) (l_a : Option Addr) (l_l : Nat) (l_c : Nat) (w : World) (R : Value → World → Prop) : Eng.R Try.prog ⟨cal, S9_nx⟩ 128 S9_ann [] (Try.f9.body.getD .skip) (bodyQ Try.prog #[.tmp 4] R) (argE [(.slice b_a b_l b_c), (.slice l_a l_l l_c)]) w = S9 b_a b_l b_c l_a l_l l_c w R := by kernel_rfl
/-- A call of 'carfax/carfaxlaw01.BitsLeft', by its condition. -/
theorem S9_calls {b_a : Option Addr} {b_l : Nat} {b_c : Nat} {l_a : Option Addr} {l_l : Nat} {l_c : Nat} {w : World} {R : Value → World → Prop} (hS : S9 b_a b_l b_c l_a l_l l_c w R) : Ret Try.prog 9 [(.slice b_a b_l b_c), (.slice l_a l_l l_c)] w R :=
  R_calls (C := ⟨cal, S9_nx⟩) cal_ok follows Try.func9 (c := Try.f9.body.getD .skip) (res := #[.tmp 4]) (n := 128) (by kernel_rfl) (by kernel_rfl) (by kernel_rfl) (by kernel_rfl) ((S9_eq b_a b_l b_c l_a l_l l_c w R).mpr hS)

def S10_ann (p : List Nat) : Option LA :=
  none

def S10_nx (t : Nat) : Option (TypeId × TypeId) := none

def S10_k1 (w_ : Option Addr) (v : Option Addr) (w : World) (R : Value → World → Prop) : Prop :=
  Calls Try.prog 18 ⟨[(.pointer w_)]⟩ w fun e w__1 =>
    ∃ (t18_a : Option Addr) (t18_l : Nat) (t18_c : Nat),
    e = .returned (.slice t18_a t18_l t18_c) ∧
    Calls Try.prog 15 ⟨[(.pointer w_), (.int .u64 5), (.int .i64 3)]⟩ w__1 fun e w__2 =>
      ∃ (t21 : Int),
      e = .returned (.int .i64 t21) ∧
      Calls Try.prog 15 ⟨[(.pointer w_), (.int .u64 1), (.int .i64 2)]⟩ w__2 fun e w__3 =>
        ∃ (t23 : Int),
        e = .returned (.int .i64 t23) ∧
        Calls Try.prog 13 ⟨[(.pointer v), (.int .u64 0)]⟩ w__3 fun e w__4 =>
          ∃ (t25 : Int),
          e = .returned (.int .i64 t25) ∧
          Calls Try.prog 13 ⟨[(.pointer v), (.int .u64 1)]⟩ w__4 fun e w__5 =>
            ∃ (t27 : Int),
            e = .returned (.int .i64 t27) ∧
            Calls Try.prog 13 ⟨[(.pointer v), (.int .u64 4)]⟩ w__5 fun e w__6 =>
              ∃ (t29 : Int),
              e = .returned (.int .i64 t29) ∧
              cond (decide ((((t18_l : Nat) : Int) : Int) = 0)) (
                cond (decide ((t21 : Int) = 0)) (
                  cond (decide ((t23 : Int) = 0)) (
                    cond (decide ((t25 : Int) = 0)) (
                      cond (decide ((t27 : Int) = 0)) (
                        cond (decide ((t29 : Int) = 0)) (
                          Calls Try.prog 18 ⟨[(.pointer w_)]⟩ w__6 fun e w__7 =>
                            ∃ (t54_a : Option Addr) (t54_l : Nat) (t54_c : Nat),
                            e = .returned (.slice t54_a t54_l t54_c) ∧
                            ∃ (t55 : ByteArray) (w__8 : World),
                            (convert 37 9 (.slice t54_a t54_l t54_c)).run Try.prog w__7 = .ok (.string t55) w__8 ∧
                            cond (decide ((t55 : ByteArray) = (⟨#[168]⟩ : ByteArray))) (
                              Calls Try.prog 17 ⟨[(.pointer w_)]⟩ w__8 fun e w__9 =>
                                ∃ (t60 : Int),
                                e = .returned (.int .i64 t60) ∧
                                cond (decide ((t60 : Int) = 5)) (
                                  Calls Try.prog 17 ⟨[(.pointer v)]⟩ w__9 fun e w__10 =>
                                    ∃ (t65 : Int),
                                    e = .returned (.int .i64 t65) ∧
                                    cond (decide ((t65 : Int) = 9)) (
                                      Calls Try.prog 18 ⟨[(.pointer v)]⟩ w__10 fun e w__11 =>
                                        ∃ (t70_a : Option Addr) (t70_l : Nat) (t70_c : Nat),
                                        e = .returned (.slice t70_a t70_l t70_c) ∧
                                        ∃ (t71 : ByteArray) (w__12 : World),
                                        (convert 37 9 (.slice t70_a t70_l t70_c)).run Try.prog w__11 = .ok (.string t71) w__12 ∧
                                        R (.bool (decide ((t71 : ByteArray) = (⟨#[162, 128]⟩ : ByteArray)))) w__12
                                    ) (
                                      R (.bool false) w__10
                                    )
                                ) (
                                  R (.bool false) w__9
                                )
                            ) (
                              R (.bool false) w__8
                            )
                        ) (
                          R (.bool false) w__6
                        )
                      ) (
                        R (.bool false) w__6
                      )
                    ) (
                      R (.bool false) w__6
                    )
                  ) (
                    R (.bool false) w__6
                  )
                ) (
                  R (.bool false) w__6
                )
              ) (
                R (.bool false) w__6
              )

def S10_k0 (w_ : Option Addr) (v : Option Addr) (t16 : Bool) (w : World) (R : Value → World → Prop) : Prop :=
  cond t16 (
    R (.bool false) w
  ) (
    S10_k1 w_ v w R
  )

def S10 (w : World) (R : Value → World → Prop) : Prop :=
  Calls Try.prog 11 ⟨[]⟩ w fun e w_ =>
    ∃ (t9 : Option Addr),
    e = .returned (.pointer t9) ∧
    Calls Try.prog 11 ⟨[]⟩ w_ fun e w__1 =>
      ∃ (t10 : Option Addr),
      e = .returned (.pointer t10) ∧
      cond (Option.isNone t9) (
        S10_k0 t9 t10 true w__1 R
      ) (
        S10_k0 t9 t10 (Option.isNone t10) w__1 R
      )

theorem S10_eq (w : World) (R : Value → World → Prop) : Eng.R Try.prog ⟨cal, S10_nx⟩ 74 S10_ann [] (Try.f10.body.getD .skip) (bodyQ Try.prog #[.tmp 0] R) (argE []) w = S10  w R := by kernel_rfl
/-- A call of 'carfax/carfaxlaw01.shown', by its condition. -/
theorem S10_calls {w : World} {R : Value → World → Prop} (hS : S10  w R) : Ret Try.prog 10 [] w R :=
  R_calls (C := ⟨cal, S10_nx⟩) cal_ok follows Try.func10 (c := Try.f10.body.getD .skip) (res := #[.tmp 0]) (n := 74) (by kernel_rfl) (by kernel_rfl) (by kernel_rfl) (by kernel_rfl) ((S10_eq  w R).mpr hS)

def S11_ann (p : List Nat) : Option LA :=
  none

def S11_nx (t : Nat) : Option (TypeId × TypeId) := none

def S11 (w : World) (R : Value → World → Prop) : Prop :=
  R (.pointer (some ⟨w.heap.size, 0, none⟩)) (w.alloc (.cells ⟨[(.slice none 0 0), (.int .i64 0)]⟩ 57))

theorem S11_eq (w : World) (R : Value → World → Prop) : Eng.R Try.prog ⟨cal, S11_nx⟩ 2 S11_ann [] (Try.f11.body.getD .skip) (bodyQ Try.prog #[.tmp 0] R) (argE []) w = S11  w R := by kernel_rfl
/-- A call of 'carfax/bits.NewWriter', by its condition. -/
theorem S11_calls {w : World} {R : Value → World → Prop} (hS : S11  w R) : Ret Try.prog 11 [] w R :=
  R_calls (C := ⟨cal, S11_nx⟩) cal_ok follows Try.func11 (c := Try.f11.body.getD .skip) (res := #[.tmp 0]) (n := 2) (by kernel_rfl) (by kernel_rfl) (by kernel_rfl) (by kernel_rfl) ((S11_eq  w R).mpr hS)

def S12_ann (p : List Nat) : Option LA :=
  none

def S12_nx (t : Nat) : Option (TypeId × TypeId) := none

def S12 (l_a : Option Addr) (l_l : Nat) (l_c : Nat) (w : World) (R : Value → World → Prop) : Prop :=
  0 ≤ ((if 300 < ((l_l : Nat) : Int) then 300 else ((l_l : Nat) : Int)) : Int) ∧
  ((if 300 < ((l_l : Nat) : Int) then 300 else ((l_l : Nat) : Int)) : Int) ≤ ((l_c : Nat) : Int) ∧
  R (.slice (slAddr l_a l_c 0 3) ((Int.toNat (if 300 < ((l_l : Nat) : Int) then 300 else ((l_l : Nat) : Int))) - 0) (l_c - 0)) w

theorem S12_eq (l_a : Option Addr) (l_l : Nat) (l_c : Nat) (w : World) (R : Value → World → Prop) : Eng.R Try.prog ⟨cal, S12_nx⟩ 8 S12_ann [] (Try.f12.body.getD .skip) (bodyQ Try.prog #[.tmp 2] R) (argE [(.slice l_a l_l l_c)]) w = S12 l_a l_l l_c w R := by kernel_rfl
/-- A call of 'carfax/carfaxlaw01.few', by its condition. -/
theorem S12_calls {l_a : Option Addr} {l_l : Nat} {l_c : Nat} {w : World} {R : Value → World → Prop} (hS : S12 l_a l_l l_c w R) : Ret Try.prog 12 [(.slice l_a l_l l_c)] w R :=
  R_calls (C := ⟨cal, S12_nx⟩) cal_ok follows Try.func12 (c := Try.f12.body.getD .skip) (res := #[.tmp 2]) (n := 8) (by kernel_rfl) (by kernel_rfl) (by kernel_rfl) (by kernel_rfl) ((S12_eq l_a l_l l_c w R).mpr hS)

def S13_ann (p : List Nat) : Option LA :=
  none

def S13_nx (t : Nat) : Option (TypeId × TypeId) := none

def S13_k1 (w_ : Option Addr) (n_ : Int) (size : Int) (w : World) (R : Value → World → Prop) : Prop :=
  Calls Try.prog 15 ⟨[(.pointer w_), (.int .u64 0), (.int .i64 (IntKind.i64.wrap (size - 1)))]⟩ w fun e w__1 =>
    ∃ (t27 : Int),
    e = .returned (.int .i64 t27) ∧
    Calls Try.prog 15 ⟨[(.pointer w_), (.int .u64 (IntKind.u64.wrap (n_ + 1))), (.int .i64 size)]⟩ w__1 fun e w__2 =>
      ∃ (t32 : Int),
      e = .returned (.int .i64 t32) ∧
      R (.int .i64 t32) w__2

def S13_k0 (w_ : Option Addr) (n_ : Int) (w : World) (R : Value → World → Prop) : Prop :=
  Calls Try.prog 29 ⟨[(.int .u64 (IntKind.u64.wrap (n_ + 1)))]⟩ w fun e w__1 =>
    ∃ (t14 : Int),
    e = .returned (.int .i64 t14) ∧
    ∃ (t19 : Addr),
    w_ = some t19 ∧
    ∃ (t21 : Int),
    w__1.cell? (t19.add 1) = some (.int .i64 t21) ∧
    cond (decide (((IntKind.i64.wrap (1048576 - t21)) : Int) < (IntKind.i64.wrap ((IntKind.i64.wrap (2 * t14)) - 1)))) (
      R (.int .i64 4) w__1
    ) (
      S13_k1 w_ n_ t14 w__1 R
    )

def S13 (w_ : Option Addr) (n_ : Int) (w : World) (R : Value → World → Prop) : Prop :=
  cond (Option.isNone w_) (
    R (.int .i64 2) w
  ) (
    cond (decide ((n_ : Int) = 18446744073709551615)) (
      R (.int .i64 1) w
    ) (
      S13_k0 w_ n_ w R
    )
  )

theorem S13_eq (w_ : Option Addr) (n_ : Int) (w : World) (R : Value → World → Prop) : Eng.R Try.prog ⟨cal, S13_nx⟩ 33 S13_ann [] (Try.f13.body.getD .skip) (bodyQ Try.prog #[.tmp 4] R) (argE [(.pointer w_), (.int .u64 n_)]) w = S13 w_ n_ w R := by kernel_rfl
/-- A call of '(*carfax/bits.Writer).Count', by its condition. -/
theorem S13_calls {w_ : Option Addr} {n_ : Int} {w : World} {R : Value → World → Prop} (hS : S13 w_ n_ w R) : Ret Try.prog 13 [(.pointer w_), (.int .u64 n_)] w R :=
  R_calls (C := ⟨cal, S13_nx⟩) cal_ok follows Try.func13 (c := Try.f13.body.getD .skip) (res := #[.tmp 4]) (n := 33) (by kernel_rfl) (by kernel_rfl) (by kernel_rfl) (by kernel_rfl) ((S13_eq w_ n_ w R).mpr hS)

def S14_ann (p : List Nat) : Option LA := match p with
  | [0, 1, 0, 1, 1] => some ⟨[0], [(3, .one (.int .i64)), (4, .one (.int .u64))]⟩
  | [0, 1, 0, 1, 1, 1, 1] => some ⟨[0, 3], [(5, .one .slice), (6, .one (.int .i64))]⟩
  | _ => none

def S14_nx (t : Nat) : Option (TypeId × TypeId) := none

def S14_k1 (n_ : Int) (k : Int) (x : Int) (w : World) (R : Value → World → Prop) (B1 : (Int) × (Int) × Unit → World → Prop) : Prop :=
  (2 : Int) ≠ 0 ∧
  B1 ((IntKind.i64.wrap (k + 1)), (IntKind.u64.wrap (Int.tdiv x 2)), ()) w

def S14_k4 (n_ : Int) (k : Int) (l_a : Option Addr) (l_l : Nat) (l_c : Nat) (i : Int) (w : World) (R : Value → World → Prop) (B1 : (Option Addr × Nat × Nat) × (Int) × Unit → World → Prop) : Prop :=
  ∃ (t22_a : Option Addr) (t22_l : Nat) (t22_c : Nat) (w_ : World),
  (Builtin.append_ #[26, 26] 26 ⟨[(.slice l_a l_l l_c), (.slice (some ⟨w.heap.size, 0, none⟩) 1 1)]⟩).run Try.prog (w.alloc (.cells ⟨[(.bool false)]⟩ 4)) = .ok (.slice t22_a t22_l t22_c) w_ ∧
  B1 ((t22_a, t22_l, t22_c), (IntKind.i64.wrap (i + 1)), ()) w_

def S14_k5 (n_ : Int) (k : Int) (l_a : Option Addr) (l_l : Nat) (l_c : Nat) (w : World) (R : Value → World → Prop) : Prop :=
  Calls Try.prog 16 ⟨[(.int .u64 (IntKind.u64.wrap (n_ + 1))), (.int .i64 (IntKind.i64.wrap (k + 1)))]⟩ w fun e w_ =>
    ∃ (t28_a : Option Addr) (t28_l : Nat) (t28_c : Nat),
    e = .returned (.slice t28_a t28_l t28_c) ∧
    ∃ (t29_a : Option Addr) (t29_l : Nat) (t29_c : Nat) (w__1 : World),
    (Builtin.append_ #[26, 26] 26 ⟨[(.slice l_a l_l l_c), (.slice t28_a t28_l t28_c)]⟩).run Try.prog w_ = .ok (.slice t29_a t29_l t29_c) w__1 ∧
    R (.slice t29_a t29_l t29_c) w__1

def S14_L3 (n_ : Int) (k : Int) (l_a : Option Addr) (l_l : Nat) (l_c : Nat) (i : Int) (w : World) (R : Value → World → Prop) (B1 : (Option Addr × Nat × Nat) × (Int) × Unit → World → Prop) : Prop :=
  cond (decide ((i : Int) < k)) (
    S14_k4 n_ k l_a l_l l_c i w R B1
  ) (
    S14_k5 n_ k l_a l_l l_c w R
  )

def S14_k2 (n_ : Int) (k : Int) (w : World) (R : Value → World → Prop) : Prop :=
  ∃ (I : (Option Addr × Nat × Nat) × (Int) × Unit → World → Prop) (μ : (Option Addr × Nat × Nat) × (Int) × Unit → World → Nat),
  I ((none, 0, 0), 0, ()) w ∧
  ∀ (J : Env) (s : (Option Addr × Nat × Nat) × (Int) × Unit) (w' : World), I s w' →
    S14_L3 n_ k s.1.1 s.1.2.1 s.1.2.2 s.2.1 w' R (fun s' w'' => I s' w'' ∧ μ s' w'' < μ s w')

def S14_L0 (n_ : Int) (k : Int) (x : Int) (w : World) (R : Value → World → Prop) (B1 : (Int) × (Int) × Unit → World → Prop) : Prop :=
  cond (decide ((1 : Int) < x)) (
    S14_k1 n_ k x w R B1
  ) (
    S14_k2 n_ k w R
  )

def S14 (n_ : Int) (w : World) (R : Value → World → Prop) : Prop :=
  ∃ (I : (Int) × (Int) × Unit → World → Prop) (μ : (Int) × (Int) × Unit → World → Nat),
  I (0, (IntKind.u64.wrap (n_ + 1)), ()) w ∧
  ∀ (J : Env) (s : (Int) × (Int) × Unit) (w' : World), I s w' →
    S14_L0 n_ s.1 s.2.1 w' R (fun s' w'' => I s' w'' ∧ μ s' w'' < μ s w')

theorem S14_eq (n_ : Int) (w : World) (R : Value → World → Prop) : Eng.R Try.prog ⟨cal, S14_nx⟩ 31 S14_ann [] (Try.f14.body.getD .skip) (bodyQ Try.prog #[.tmp 2] R) (argE [(.int .u64 n_)]) w = S14 n_ w R := by kernel_rfl
/-- A call of 'carfax/carfaxref01.Count', by its condition. -/
theorem S14_calls {n_ : Int} {w : World} {R : Value → World → Prop} (hS : S14 n_ w R) : Ret Try.prog 14 [(.int .u64 n_)] w R :=
  R_calls (C := ⟨cal, S14_nx⟩) cal_ok follows Try.func14 (c := Try.f14.body.getD .skip) (res := #[.tmp 2]) (n := 31) (by kernel_rfl) (by kernel_rfl) (by kernel_rfl) (by kernel_rfl) ((S14_eq n_ w R).mpr hS)

def S15_ann (p : List Nat) : Option LA := match p with
  | [0, 1, 0, 1, 1, 1] => some ⟨[1, 7], [(8, .one (.int .i64))]⟩
  | _ => none

def S15_nx (t : Nat) : Option (TypeId × TypeId) := none

def S15_k3 (n_ : Int) (lay_f0 : Option Addr) (k : Int) (w : World) (R : Value → World → Prop) (B1 : (Int) × Unit → World → Prop) : Prop :=
  0 ≤ (k : Int) ∧
  Calls Try.prog 30 ⟨[(.pointer lay_f0), (.bool (decide (((bitsI .and .u64 (Int.fdiv n_ (2 ^ (min (Int.toNat k) (IntKind.u64.bits)))) 1) : Int) = 1)))]⟩ w fun e w_ =>
    e = .returned (.tuple ⟨[]⟩) ∧
    B1 ((IntKind.i64.wrap (k - 1)), ()) w_

def S15_L2 (n_ : Int) (lay_f0 : Option Addr) (k : Int) (w : World) (R : Value → World → Prop) (B1 : (Int) × Unit → World → Prop) : Prop :=
  cond (decide ((0 : Int) ≤ k)) (
    S15_k3 n_ lay_f0 k w R B1
  ) (
    R (.int .i64 0) w
  )

def S15_k1 (w_ : Option Addr) (n_ : Int) (many : Int) (w : World) (R : Value → World → Prop) : Prop :=
  ∃ (I : (Int) × Unit → World → Prop) (μ : (Int) × Unit → World → Nat),
  I ((IntKind.i64.wrap (many - 1)), ()) w ∧
  ∀ (J : Env) (s : (Int) × Unit) (w' : World), I s w' →
    S15_L2 n_ w_ s.1 w' R (fun s' w'' => I s' w'' ∧ μ s' w'' < μ s w')

def S15_k0 (w_ : Option Addr) (n_ : Int) (many : Int) (t12 : Bool) (w : World) (R : Value → World → Prop) : Prop :=
  cond t12 (
    R (.int .i64 1) w
  ) (
    ∃ (t22 : Addr),
    w_ = some t22 ∧
    ∃ (t24 : Int),
    w.cell? (t22.add 1) = some (.int .i64 t24) ∧
    cond (decide (((IntKind.i64.wrap (1048576 - t24)) : Int) < many)) (
      R (.int .i64 4) w
    ) (
      S15_k1 w_ n_ many w R
    )
  )

def S15 (w_ : Option Addr) (n_ : Int) (many : Int) (w : World) (R : Value → World → Prop) : Prop :=
  cond (Option.isNone w_) (
    R (.int .i64 2) w
  ) (
    cond (decide ((many : Int) < 0)) (
      S15_k0 w_ n_ many true w R
    ) (
      S15_k0 w_ n_ many (decide ((64 : Int) < many)) w R
    )
  )

theorem S15_eq (w_ : Option Addr) (n_ : Int) (many : Int) (w : World) (R : Value → World → Prop) : Eng.R Try.prog ⟨cal, S15_nx⟩ 42 S15_ann [] (Try.f15.body.getD .skip) (bodyQ Try.prog #[.tmp 6] R) (argE [(.pointer w_), (.int .u64 n_), (.int .i64 many)]) w = S15 w_ n_ many w R := by kernel_rfl
/-- A call of '(*carfax/bits.Writer).Put', by its condition. -/
theorem S15_calls {w_ : Option Addr} {n_ : Int} {many : Int} {w : World} {R : Value → World → Prop} (hS : S15 w_ n_ many w R) : Ret Try.prog 15 [(.pointer w_), (.int .u64 n_), (.int .i64 many)] w R :=
  R_calls (C := ⟨cal, S15_nx⟩) cal_ok follows Try.func15 (c := Try.f15.body.getD .skip) (res := #[.tmp 6]) (n := 42) (by kernel_rfl) (by kernel_rfl) (by kernel_rfl) (by kernel_rfl) ((S15_eq w_ n_ many w R).mpr hS)

def S16_ann (p : List Nat) : Option LA := match p with
  | [0, 1, 0, 1, 1] => some ⟨[1], [(0, .one (.int .u64)), (5, .one .slice), (6, .one (.int .i64))]⟩
  | _ => none

def S16_nx (t : Nat) : Option (TypeId × TypeId) := none

def S16_k1 (n_ : Int) (many : Int) (l_a : Option Addr) (l_l : Nat) (l_c : Nat) (i : Int) (w : World) (R : Value → World → Prop) (B1 : (Int) × (Option Addr × Nat × Nat) × (Int) × Unit → World → Prop) : Prop :=
  (2 : Int) ≠ 0 ∧
  ∃ (t17_a : Option Addr) (t17_l : Nat) (t17_c : Nat) (w_ : World),
  (Builtin.append_ #[26, 26] 26 ⟨[(.slice (some ⟨w.heap.size, 0, none⟩) 1 1), (.slice l_a l_l l_c)]⟩).run Try.prog (w.alloc (.cells ⟨[(.bool (decide (((Int.tmod n_ 2) : Int) = 1)))]⟩ 4)) = .ok (.slice t17_a t17_l t17_c) w_ ∧
  (2 : Int) ≠ 0 ∧
  B1 ((IntKind.u64.wrap (Int.tdiv n_ 2)), (t17_a, t17_l, t17_c), (IntKind.i64.wrap (i + 1)), ()) w_

def S16_L0 (n_ : Int) (many : Int) (l_a : Option Addr) (l_l : Nat) (l_c : Nat) (i : Int) (w : World) (R : Value → World → Prop) (B1 : (Int) × (Option Addr × Nat × Nat) × (Int) × Unit → World → Prop) : Prop :=
  cond (decide ((i : Int) < many)) (
    S16_k1 n_ many l_a l_l l_c i w R B1
  ) (
    R (.slice l_a l_l l_c) w
  )

def S16 (n_ : Int) (many : Int) (w : World) (R : Value → World → Prop) : Prop :=
  ∃ (I : (Int) × (Option Addr × Nat × Nat) × (Int) × Unit → World → Prop) (μ : (Int) × (Option Addr × Nat × Nat) × (Int) × Unit → World → Nat),
  I (n_, (none, 0, 0), 0, ()) w ∧
  ∀ (J : Env) (s : (Int) × (Option Addr × Nat × Nat) × (Int) × Unit) (w' : World), I s w' →
    S16_L0 s.1 many s.2.1.1 s.2.1.2.1 s.2.1.2.2 s.2.2.1 w' R (fun s' w'' => I s' w'' ∧ μ s' w'' < μ s w')

theorem S16_eq (n_ : Int) (many : Int) (w : World) (R : Value → World → Prop) : Eng.R Try.prog ⟨cal, S16_nx⟩ 21 S16_ann [] (Try.f16.body.getD .skip) (bodyQ Try.prog #[.tmp 4] R) (argE [(.int .u64 n_), (.int .i64 many)]) w = S16 n_ many w R := by kernel_rfl
/-- A call of 'carfax/carfaxref01.Bits', by its condition. -/
theorem S16_calls {n_ : Int} {many : Int} {w : World} {R : Value → World → Prop} (hS : S16 n_ many w R) : Ret Try.prog 16 [(.int .u64 n_), (.int .i64 many)] w R :=
  R_calls (C := ⟨cal, S16_nx⟩) cal_ok follows Try.func16 (c := Try.f16.body.getD .skip) (res := #[.tmp 4]) (n := 21) (by kernel_rfl) (by kernel_rfl) (by kernel_rfl) (by kernel_rfl) ((S16_eq n_ many w R).mpr hS)

def S17_ann (p : List Nat) : Option LA :=
  none

def S17_nx (t : Nat) : Option (TypeId × TypeId) := none

def S17_k0 (w_ : Option Addr) (w : World) (R : Value → World → Prop) : Prop :=
  ∃ (t6 : Addr),
  w_ = some t6 ∧
  ∃ (t8 : Int),
  w.cell? (t6.add 1) = some (.int .i64 t8) ∧
  R (.int .i64 t8) w

def S17 (w_ : Option Addr) (w : World) (R : Value → World → Prop) : Prop :=
  cond (Option.isNone w_) (
    R (.int .i64 0) w
  ) (
    S17_k0 w_ w R
  )

theorem S17_eq (w_ : Option Addr) (w : World) (R : Value → World → Prop) : Eng.R Try.prog ⟨cal, S17_nx⟩ 9 S17_ann [] (Try.f17.body.getD .skip) (bodyQ Try.prog #[.tmp 2] R) (argE [(.pointer w_)]) w = S17 w_ w R := by kernel_rfl
/-- A call of '(*carfax/bits.Writer).Len', by its condition. -/
theorem S17_calls {w_ : Option Addr} {w : World} {R : Value → World → Prop} (hS : S17 w_ w R) : Ret Try.prog 17 [(.pointer w_)] w R :=
  R_calls (C := ⟨cal, S17_nx⟩) cal_ok follows Try.func17 (c := Try.f17.body.getD .skip) (res := #[.tmp 2]) (n := 9) (by kernel_rfl) (by kernel_rfl) (by kernel_rfl) (by kernel_rfl) ((S17_eq w_ w R).mpr hS)

def S18_ann (p : List Nat) : Option LA :=
  none

def S18_nx (t : Nat) : Option (TypeId × TypeId) := none

def S18_k0 (w_ : Option Addr) (w : World) (R : Value → World → Prop) : Prop :=
  ∃ (t6 : Addr),
  w_ = some t6 ∧
  ∃ (t8_a : Option Addr) (t8_l : Nat) (t8_c : Nat),
  w.cell? t6 = some (.slice t8_a t8_l t8_c) ∧
  ∃ (t9_a : Option Addr) (t9_l : Nat) (t9_c : Nat) (w__1 : World),
  (Builtin.append_ #[37, 37] 37 ⟨[(.slice none 0 0), (.slice t8_a t8_l t8_c)]⟩).run Try.prog w = .ok (.slice t9_a t9_l t9_c) w__1 ∧
  R (.slice t9_a t9_l t9_c) w__1

def S18 (w_ : Option Addr) (w : World) (R : Value → World → Prop) : Prop :=
  cond (Option.isNone w_) (
    R (.slice none 0 0) w
  ) (
    S18_k0 w_ w R
  )

theorem S18_eq (w_ : Option Addr) (w : World) (R : Value → World → Prop) : Eng.R Try.prog ⟨cal, S18_nx⟩ 10 S18_ann [] (Try.f18.body.getD .skip) (bodyQ Try.prog #[.tmp 2] R) (argE [(.pointer w_)]) w = S18 w_ w R := by kernel_rfl
/-- A call of '(*carfax/bits.Writer).Out', by its condition. -/
theorem S18_calls {w_ : Option Addr} {w : World} {R : Value → World → Prop} (hS : S18 w_ w R) : Ret Try.prog 18 [(.pointer w_)] w R :=
  R_calls (C := ⟨cal, S18_nx⟩) cal_ok follows Try.func18 (c := Try.f18.body.getD .skip) (res := #[.tmp 2]) (n := 10) (by kernel_rfl) (by kernel_rfl) (by kernel_rfl) (by kernel_rfl) ((S18_eq w_ w R).mpr hS)

def S19_ann (p : List Nat) : Option LA := match p with
  | [0, 1, 0, 1, 1] => some ⟨[0], [(3, .one .slice), (4, .one (.int .i64))]⟩
  | [0, 1, 0, 1, 0, 1, 1, 0, 0, 1, 0, 0, 1, 0, 1, 1] => some ⟨[0, 3, 4], [(5, .one (.int .u8)), (6, .one (.int .i64))]⟩
  | _ => none

def S19_nx (t : Nat) : Option (TypeId × TypeId) := none

def S19_k4 (l_a : Option Addr) (l_l : Nat) (l_c : Nat) (b_a : Option Addr) (b_l : Nat) (b_c : Nat) (i : Int) (p : Int) (k : Int) (w : World) (R : Value → World → Prop) (B1 : (Option Addr × Nat × Nat) × (Int) × Unit → World → Prop) (B2 : (Int) × (Int) × Unit → World → Prop) : Prop :=
  (2 : Int) ≠ 0 ∧
  B2 ((IntKind.u8.wrap (Int.tdiv p 2)), (IntKind.i64.wrap (k + 1)), ()) w

def S19_k5 (l_a : Option Addr) (l_l : Nat) (l_c : Nat) (b_a : Option Addr) (b_l : Nat) (b_c : Nat) (i : Int) (p : Int) (w : World) (R : Value → World → Prop) (B1 : (Option Addr × Nat × Nat) × (Int) × Unit → World → Prop) : Prop :=
  (8 : Int) ≠ 0 ∧
  (8 : Int) ≠ 0 ∧
  ∃ (t37 : Addr),
  b_a = some t37 ∧
  0 ≤ ((IntKind.i64.wrap (Int.tdiv i 8)) : Int) ∧
  ((IntKind.i64.wrap (Int.tdiv i 8)) : Int) < ((b_l : Nat) : Int) ∧
  ∃ (t38 : Int),
  w.cell? (t37.add (Int.toNat (IntKind.i64.wrap (Int.tdiv i 8)) * 1)) = some (.int .u8 t38) ∧
  ∃ (t41 : Addr),
  b_a = some t41 ∧
  0 ≤ ((IntKind.i64.wrap (Int.tdiv i 8)) : Int) ∧
  ((IntKind.i64.wrap (Int.tdiv i 8)) : Int) < ((b_l : Nat) : Int) ∧
  (∃ u, w.cell? (t41.add (Int.toNat (IntKind.i64.wrap (Int.tdiv i 8)) * 1)) = some u) ∧
  w.frozen? (t41.add (Int.toNat (IntKind.i64.wrap (Int.tdiv i 8)) * 1)) = false ∧
  B1 ((b_a, b_l, b_c), (IntKind.i64.wrap (i + 1)), ()) (w.setCell (t41.add (Int.toNat (IntKind.i64.wrap (Int.tdiv i 8)) * 1)) (.int .u8 (IntKind.u8.wrap (t38 + p))))

def S19_L3 (l_a : Option Addr) (l_l : Nat) (l_c : Nat) (b_a : Option Addr) (b_l : Nat) (b_c : Nat) (i : Int) (p : Int) (k : Int) (w : World) (R : Value → World → Prop) (B1 : (Option Addr × Nat × Nat) × (Int) × Unit → World → Prop) (B2 : (Int) × (Int) × Unit → World → Prop) : Prop :=
  (8 : Int) ≠ 0 ∧
  cond (decide ((k : Int) < (Int.tmod i 8))) (
    S19_k4 l_a l_l l_c b_a b_l b_c i p k w R B1 B2
  ) (
    S19_k5 l_a l_l l_c b_a b_l b_c i p w R B1
  )

def S19_k2 (l_a : Option Addr) (l_l : Nat) (l_c : Nat) (b_a : Option Addr) (b_l : Nat) (b_c : Nat) (i : Int) (w : World) (R : Value → World → Prop) (B1 : (Option Addr × Nat × Nat) × (Int) × Unit → World → Prop) : Prop :=
  ∃ (t21 : Addr),
  l_a = some t21 ∧
  0 ≤ (i : Int) ∧
  (i : Int) < ((l_l : Nat) : Int) ∧
  ∃ (t22 : Bool),
  w.cell? (t21.add (Int.toNat i * 1)) = some (.bool t22) ∧
  cond t22 (
    ∃ (I : (Int) × (Int) × Unit → World → Prop) (μ : (Int) × (Int) × Unit → World → Nat),
    I (128, 0, ()) w ∧
    ∀ (J : Env) (s : (Int) × (Int) × Unit) (w' : World), I s w' →
      S19_L3 l_a l_l l_c b_a b_l b_c i s.1 s.2.1 w' R B1 (fun s' w'' => I s' w'' ∧ μ s' w'' < μ s w')
  ) (
    B1 ((b_a, b_l, b_c), (IntKind.i64.wrap (i + 1)), ()) w
  )

def S19_k1 (l_a : Option Addr) (l_l : Nat) (l_c : Nat) (b_a : Option Addr) (b_l : Nat) (b_c : Nat) (i : Int) (w : World) (R : Value → World → Prop) (B1 : (Option Addr × Nat × Nat) × (Int) × Unit → World → Prop) : Prop :=
  (8 : Int) ≠ 0 ∧
  cond (decide (((Int.tmod i 8) : Int) = 0)) (
    ∃ (t18_a : Option Addr) (t18_l : Nat) (t18_c : Nat) (w_ : World),
    (Builtin.append_ #[37, 37] 37 ⟨[(.slice b_a b_l b_c), (.slice (some ⟨w.heap.size, 0, none⟩) 1 1)]⟩).run Try.prog (w.alloc (.cells ⟨[(.int .u8 0)]⟩ 5)) = .ok (.slice t18_a t18_l t18_c) w_ ∧
    S19_k2 l_a l_l l_c t18_a t18_l t18_c i w_ R B1
  ) (
    S19_k2 l_a l_l l_c b_a b_l b_c i w R B1
  )

def S19_L0 (l_a : Option Addr) (l_l : Nat) (l_c : Nat) (b_a : Option Addr) (b_l : Nat) (b_c : Nat) (i : Int) (w : World) (R : Value → World → Prop) (B1 : (Option Addr × Nat × Nat) × (Int) × Unit → World → Prop) : Prop :=
  cond (decide ((i : Int) < ((l_l : Nat) : Int))) (
    S19_k1 l_a l_l l_c b_a b_l b_c i w R B1
  ) (
    R (.slice b_a b_l b_c) w
  )

def S19 (l_a : Option Addr) (l_l : Nat) (l_c : Nat) (w : World) (R : Value → World → Prop) : Prop :=
  ∃ (I : (Option Addr × Nat × Nat) × (Int) × Unit → World → Prop) (μ : (Option Addr × Nat × Nat) × (Int) × Unit → World → Nat),
  I ((none, 0, 0), 0, ()) w ∧
  ∀ (J : Env) (s : (Option Addr × Nat × Nat) × (Int) × Unit) (w' : World), I s w' →
    S19_L0 l_a l_l l_c s.1.1 s.1.2.1 s.1.2.2 s.2.1 w' R (fun s' w'' => I s' w'' ∧ μ s' w'' < μ s w')

theorem S19_eq (l_a : Option Addr) (l_l : Nat) (l_c : Nat) (w : World) (R : Value → World → Prop) : Eng.R Try.prog ⟨cal, S19_nx⟩ 43 S19_ann [] (Try.f19.body.getD .skip) (bodyQ Try.prog #[.tmp 2] R) (argE [(.slice l_a l_l l_c)]) w = S19 l_a l_l l_c w R := by kernel_rfl
/-- A call of 'carfax/carfaxref01.Bytes', by its condition. -/
theorem S19_calls {l_a : Option Addr} {l_l : Nat} {l_c : Nat} {w : World} {R : Value → World → Prop} (hS : S19 l_a l_l l_c w R) : Ret Try.prog 19 [(.slice l_a l_l l_c)] w R :=
  R_calls (C := ⟨cal, S19_nx⟩) cal_ok follows Try.func19 (c := Try.f19.body.getD .skip) (res := #[.tmp 2]) (n := 43) (by kernel_rfl) (by kernel_rfl) (by kernel_rfl) (by kernel_rfl) ((S19_eq l_a l_l l_c w R).mpr hS)

def S20_ann (p : List Nat) : Option LA :=
  none

def S20_nx (t : Nat) : Option (TypeId × TypeId) := none

def S20 (b_a : Option Addr) (b_l : Nat) (b_c : Nat) (w : World) (R : Value → World → Prop) : Prop :=
  ∃ (t4_a : Option Addr) (t4_l : Nat) (t4_c : Nat) (w_ : World),
  (Builtin.append_ #[37, 37] 37 ⟨[(.slice none 0 0), (.slice b_a b_l b_c)]⟩).run Try.prog w = .ok (.slice t4_a t4_l t4_c) w_ ∧
  R (.pointer (some ⟨w_.heap.size, 0, none⟩)) (w_.alloc (.cells ⟨[(.slice t4_a t4_l t4_c), (.int .i64 0), (.int .i64 0)]⟩ 61))

theorem S20_eq (b_a : Option Addr) (b_l : Nat) (b_c : Nat) (w : World) (R : Value → World → Prop) : Eng.R Try.prog ⟨cal, S20_nx⟩ 7 S20_ann [] (Try.f20.body.getD .skip) (bodyQ Try.prog #[.tmp 2] R) (argE [(.slice b_a b_l b_c)]) w = S20 b_a b_l b_c w R := by kernel_rfl
/-- A call of 'carfax/bits.NewReader', by its condition. -/
theorem S20_calls {b_a : Option Addr} {b_l : Nat} {b_c : Nat} {w : World} {R : Value → World → Prop} (hS : S20 b_a b_l b_c w R) : Ret Try.prog 20 [(.slice b_a b_l b_c)] w R :=
  R_calls (C := ⟨cal, S20_nx⟩) cal_ok follows Try.func20 (c := Try.f20.body.getD .skip) (res := #[.tmp 2]) (n := 7) (by kernel_rfl) (by kernel_rfl) (by kernel_rfl) (by kernel_rfl) ((S20_eq b_a b_l b_c w R).mpr hS)

def S21_ann (p : List Nat) : Option LA := match p with
  | [0, 1, 0, 1, 1] => some ⟨[0, 3], [(4, .one (.int .i64))]⟩
  | _ => none

def S21_nx (t : Nat) : Option (TypeId × TypeId) := none

def S21_k1 (b_a : Option Addr) (b_l : Nat) (b_c : Nat) (r : Addr) (i : Int) (w : World) (R : Value → World → Prop) (B1 : (Int) × Unit → World → Prop) : Prop :=
  ∃ (t15 : Addr),
  (some r) = some t15 ∧
  ∃ (t20 : Addr),
  b_a = some t20 ∧
  0 ≤ (i : Int) ∧
  (i : Int) < ((b_l : Nat) : Int) ∧
  ∃ (t21 : Int),
  w.drew.cell? (t20.add (Int.toNat i * 1)) = some (.int .u8 t21) ∧
  (
    ∃ (t17_a : Option Addr) (t17_l : Nat) (t17_c : Nat),
    w.drew.cell? t15 = some (.slice t17_a t17_l t17_c) ∧
    Calls Try.prog 16 ⟨[(.int .u64 (IntKind.u64.wrap t21)), (.int .i64 8)]⟩ w.drew fun e w_ =>
      ∃ (t23_a : Option Addr) (t23_l : Nat) (t23_c : Nat),
      e = .returned (.slice t23_a t23_l t23_c) ∧
      ∃ (t24_a : Option Addr) (t24_l : Nat) (t24_c : Nat) (w__1 : World),
      (Builtin.append_ #[26, 26] 26 ⟨[(.slice t17_a t17_l t17_c), (.slice t23_a t23_l t23_c)]⟩).run Try.prog w_ = .ok (.slice t24_a t24_l t24_c) w__1 ∧
      ∃ (t25 : Addr),
      (some r) = some t25 ∧
      (∃ u, w__1.cell? t25 = some u) ∧
      w__1.frozen? t25 = false ∧
      B1 ((IntKind.i64.wrap (i + 1)), ()) (w__1.setCell t25 (.slice t24_a t24_l t24_c))
  ) ∧
  (
    Calls Try.prog 16 ⟨[(.int .u64 (IntKind.u64.wrap t21)), (.int .i64 8)]⟩ w.drew fun e w__2 =>
      ∃ (t23_a_1 : Option Addr) (t23_l_1 : Nat) (t23_c_1 : Nat),
      e = .returned (.slice t23_a_1 t23_l_1 t23_c_1) ∧
      ∃ (t17_a_1 : Option Addr) (t17_l_1 : Nat) (t17_c_1 : Nat),
      w__2.cell? t15 = some (.slice t17_a_1 t17_l_1 t17_c_1) ∧
      ∃ (t24_a_1 : Option Addr) (t24_l_1 : Nat) (t24_c_1 : Nat) (w__3 : World),
      (Builtin.append_ #[26, 26] 26 ⟨[(.slice t17_a_1 t17_l_1 t17_c_1), (.slice t23_a_1 t23_l_1 t23_c_1)]⟩).run Try.prog w__2 = .ok (.slice t24_a_1 t24_l_1 t24_c_1) w__3 ∧
      ∃ (t25_1 : Addr),
      (some r) = some t25_1 ∧
      (∃ u, w__3.cell? t25_1 = some u) ∧
      w__3.frozen? t25_1 = false ∧
      B1 ((IntKind.i64.wrap (i + 1)), ()) (w__3.setCell t25_1 (.slice t24_a_1 t24_l_1 t24_c_1))
  )

def S21_L0 (b_a : Option Addr) (b_l : Nat) (b_c : Nat) (r : Addr) (i : Int) (w : World) (R : Value → World → Prop) (B1 : (Int) × Unit → World → Prop) : Prop :=
  cond (decide ((i : Int) < ((b_l : Nat) : Int))) (
    S21_k1 b_a b_l b_c r i w R B1
  ) (
    R (.pointer (some r)) w
  )

def S21 (b_a : Option Addr) (b_l : Nat) (b_c : Nat) (w : World) (R : Value → World → Prop) : Prop :=
  ∃ (I : (Int) × Unit → World → Prop) (μ : (Int) × Unit → World → Nat),
  I (0, ()) (w.alloc (.cells ⟨[(.slice none 0 0), (.int .i64 0), (.int .i64 0)]⟩ 52)) ∧
  ∀ (J : Env) (s : (Int) × Unit) (w' : World), I s w' →
    S21_L0 b_a b_l b_c ⟨w.heap.size, 0, none⟩ s.1 w' R (fun s' w'' => I s' w'' ∧ μ s' w'' < μ s w')

theorem S21_eq (b_a : Option Addr) (b_l : Nat) (b_c : Nat) (w : World) (R : Value → World → Prop) : Eng.R Try.prog ⟨cal, S21_nx⟩ 28 S21_ann [] (Try.f21.body.getD .skip) (bodyQ Try.prog #[.tmp 2] R) (argE [(.slice b_a b_l b_c)]) w = S21 b_a b_l b_c w R := by kernel_rfl
/-- A call of 'carfax/carfaxref01.Of', by its condition. -/
theorem S21_calls {b_a : Option Addr} {b_l : Nat} {b_c : Nat} {w : World} {R : Value → World → Prop} (hS : S21 b_a b_l b_c w R) : Ret Try.prog 21 [(.slice b_a b_l b_c)] w R :=
  R_calls (C := ⟨cal, S21_nx⟩) cal_ok follows Try.func21 (c := Try.f21.body.getD .skip) (res := #[.tmp 2]) (n := 28) (by kernel_rfl) (by kernel_rfl) (by kernel_rfl) (by kernel_rfl) ((S21_eq b_a b_l b_c w R).mpr hS)

def S22_ann (p : List Nat) : Option LA := match p with
  | [0, 0, 1, 1, 1, 1] => some ⟨[0, 3], [(4, .one (.int .i64))]⟩
  | _ => none

def S22_nx (t : Nat) : Option (TypeId × TypeId) := none

def S22_k4 (r : Option Addr) (left : Int) (k : Int) (w : World) (R : Value → World → Prop) (B1 : (Int) × Unit → World → Prop) : Prop :=
  B1 ((IntKind.i64.wrap (k + 1)), ()) w

def S22_k6 (r : Option Addr) (k : Int) (w : World) (R : Value → World → Prop) : Prop :=
  ∃ (t43 : Addr),
  r = some t43 ∧
  ∃ (t45 : Int),
  w.cell? (t43.add 1) = some (.int .i64 t45) ∧
  ∃ (t48 : Addr),
  r = some t48 ∧
  (∃ u, w.cell? (t48.add 1) = some u) ∧
  w.frozen? (t48.add 1) = false ∧
  Calls Try.prog 24 ⟨[(.pointer r), (.int .i64 (IntKind.i64.wrap (k + 1)))]⟩ (w.setCell (t48.add 1) (.int .i64 (IntKind.i64.wrap (t45 + k)))) fun e w_ =>
    ∃ (t53 : Int),
    e = .returned (.int .u64 t53) ∧
    R (.int .u64 (IntKind.u64.wrap (t53 - 1))) w_

def S22_k5 (r : Option Addr) (left : Int) (k : Int) (w : World) (R : Value → World → Prop) : Prop :=
  cond (decide ((63 : Int) < k)) (
    ∃ (t31 : Addr),
    r = some t31 ∧
    (∃ u, w.cell? (t31.add 2) = some u) ∧
    w.frozen? (t31.add 2) = false ∧
    R (.int .u64 0) (w.setCell (t31.add 2) (.int .i64 4))
  ) (
    cond (decide ((left : Int) < (IntKind.i64.wrap ((IntKind.i64.wrap (2 * k)) + 1)))) (
      ∃ (t40 : Addr),
      r = some t40 ∧
      (∃ u, w.cell? (t40.add 2) = some u) ∧
      w.frozen? (t40.add 2) = false ∧
      R (.int .u64 0) (w.setCell (t40.add 2) (.int .i64 10))
    ) (
      S22_k6 r k w R
    )
  )

def S22_k3 (r : Option Addr) (left : Int) (k : Int) (t24 : Bool) (w : World) (R : Value → World → Prop) (B1 : (Int) × Unit → World → Prop) : Prop :=
  cond t24 (
    S22_k4 r left k w R B1
  ) (
    S22_k5 r left k w R
  )

def S22_L2 (r : Option Addr) (left : Int) (k : Int) (w : World) (R : Value → World → Prop) (B1 : (Int) × Unit → World → Prop) : Prop :=
  cond (decide ((k : Int) < left)) (
    Calls Try.prog 31 ⟨[(.pointer r), (.int .i64 k)]⟩ w fun e w_ =>
      ∃ (t22 : Bool),
      e = .returned (.bool t22) ∧
      S22_k3 r left k (!t22) w_ R B1
  ) (
    S22_k3 r left k false w R B1
  )

def S22_k1 (r : Option Addr) (w : World) (R : Value → World → Prop) : Prop :=
  Calls Try.prog 26 ⟨[(.pointer r)]⟩ w fun e w_ =>
    ∃ (t15 : Int),
    e = .returned (.int .i64 t15) ∧
    ∃ (I : (Int) × Unit → World → Prop) (μ : (Int) × Unit → World → Nat),
    I (0, ()) w_ ∧
    ∀ (J : Env) (s : (Int) × Unit) (w' : World), I s w' →
      S22_L2 r t15 s.1 w' R (fun s' w'' => I s' w'' ∧ μ s' w'' < μ s w')

def S22_k0 (r : Option Addr) (t13 : Bool) (w : World) (R : Value → World → Prop) : Prop :=
  cond t13 (
    R (.int .u64 0) w
  ) (
    S22_k1 r w R
  )

def S22 (r : Option Addr) (w : World) (R : Value → World → Prop) : Prop :=
  cond (Option.isNone r) (
    S22_k0 r true w R
  ) (
    ∃ (t9 : Addr),
    r = some t9 ∧
    ∃ (t11 : Int),
    w.cell? (t9.add 2) = some (.int .i64 t11) ∧
    S22_k0 r (!decide ((t11 : Int) = 0)) w R
  )

theorem S22_eq (r : Option Addr) (w : World) (R : Value → World → Prop) : Eng.R Try.prog ⟨cal, S22_nx⟩ 55 S22_ann [] (Try.f22.body.getD .skip) (bodyQ Try.prog #[.tmp 2] R) (argE [(.pointer r)]) w = S22 r w R := by kernel_rfl
/-- A call of '(*carfax/bits.Reader).Count', by its condition. -/
theorem S22_calls {r : Option Addr} {w : World} {R : Value → World → Prop} (hS : S22 r w R) : Ret Try.prog 22 [(.pointer r)] w R :=
  R_calls (C := ⟨cal, S22_nx⟩) cal_ok follows Try.func22 (c := Try.f22.body.getD .skip) (res := #[.tmp 2]) (n := 55) (by kernel_rfl) (by kernel_rfl) (by kernel_rfl) (by kernel_rfl) ((S22_eq r w R).mpr hS)

def S23_ann (p : List Nat) : Option LA := match p with
  | [0, 0, 1, 1, 1, 1] => some ⟨[0, 3], [(4, .one (.int .i64))]⟩
  | _ => none

def S23_nx (t : Nat) : Option (TypeId × TypeId) := none

def S23_k3 (r : Option Addr) (was : Int) (k : Int) (w : World) (R : Value → World → Prop) (B1 : (Int) × Unit → World → Prop) : Prop :=
  B1 ((IntKind.i64.wrap (k + 1)), ()) w

def S23_k5 (r : Option Addr) (was : Int) (k : Int) (w : World) (R : Value → World → Prop) : Prop :=
  ∃ (t51 : Addr),
  r = some t51 ∧
  ∃ (t53 : Int),
  w.cell? (t51.add 1) = some (.int .i64 t53) ∧
  ∃ (t56 : Addr),
  r = some t56 ∧
  (∃ u, w.cell? (t56.add 1) = some u) ∧
  w.frozen? (t56.add 1) = false ∧
  Calls Try.prog 25 ⟨[(.pointer r), (.int .i64 (IntKind.i64.wrap (k + 1)))]⟩ (w.setCell (t56.add 1) (.int .i64 (IntKind.i64.wrap (t53 + k)))) fun e w_ =>
    ∃ (t61 : Int),
    e = .returned (.int .u64 t61) ∧
    ∃ (t63 : Addr),
    r = some t63 ∧
    ∃ (t65 : Int),
    w_.cell? (t63.add 2) = some (.int .i64 t65) ∧
    cond (!decide ((t65 : Int) = 0)) (
      ∃ (t69 : Addr),
      r = some t69 ∧
      (∃ u, w_.cell? (t69.add 1) = some u) ∧
      w_.frozen? (t69.add 1) = false ∧
      R (.int .u64 0) (w_.setCell (t69.add 1) (.int .i64 was))
    ) (
      R (.int .u64 (IntKind.u64.wrap (t61 - 1))) w_
    )

def S23_k4 (r : Option Addr) (was : Int) (k : Int) (w : World) (R : Value → World → Prop) : Prop :=
  cond (decide ((63 : Int) < k)) (
    ∃ (t47 : Addr),
    r = some t47 ∧
    (∃ u, w.cell? (t47.add 2) = some u) ∧
    w.frozen? (t47.add 2) = false ∧
    R (.int .u64 0) (w.setCell (t47.add 2) (.int .i64 4))
  ) (
    S23_k5 r was k w R
  )

def S23_k2 (r : Option Addr) (was : Int) (k : Int) (t41 : Bool) (w : World) (R : Value → World → Prop) (B1 : (Int) × Unit → World → Prop) : Prop :=
  cond t41 (
    S23_k3 r was k w R B1
  ) (
    S23_k4 r was k w R
  )

def S23_L1 (r : Option Addr) (was : Int) (k : Int) (w : World) (R : Value → World → Prop) (B1 : (Int) × Unit → World → Prop) : Prop :=
  ∃ (t16 : Addr),
  r = some t16 ∧
  ∃ (t22 : Addr),
  r = some t22 ∧
  (
    ∃ (t18 : Int),
    w.drew.cell? (t16.add 1) = some (.int .i64 t18) ∧
    ∃ (t24_a : Option Addr) (t24_l : Nat) (t24_c : Nat),
    w.drew.cell? t22 = some (.slice t24_a t24_l t24_c) ∧
    cond (decide (((IntKind.i64.wrap (t18 + k)) : Int) < ((t24_l : Nat) : Int))) (
      ∃ (t29 : Addr),
      r = some t29 ∧
      ∃ (t33 : Addr),
      r = some t33 ∧
      ∃ (t35 : Int),
      w.drew.cell? (t33.add 1) = some (.int .i64 t35) ∧
      ∃ (t31_a : Option Addr) (t31_l : Nat) (t31_c : Nat),
      w.drew.cell? t29 = some (.slice t31_a t31_l t31_c) ∧
      ∃ (t38 : Addr),
      t31_a = some t38 ∧
      0 ≤ ((IntKind.i64.wrap (t35 + k)) : Int) ∧
      ((IntKind.i64.wrap (t35 + k)) : Int) < ((t31_l : Nat) : Int) ∧
      ∃ (t39 : Bool),
      w.drew.cell? (t38.add (Int.toNat (IntKind.i64.wrap (t35 + k)) * 1)) = some (.bool t39) ∧
      S23_k2 r was k (!t39) w.drew R B1
    ) (
      S23_k2 r was k false w.drew R B1
    )
  ) ∧
  (
    ∃ (t24_a_1 : Option Addr) (t24_l_1 : Nat) (t24_c_1 : Nat),
    w.drew.cell? t22 = some (.slice t24_a_1 t24_l_1 t24_c_1) ∧
    ∃ (t18_1 : Int),
    w.drew.cell? (t16.add 1) = some (.int .i64 t18_1) ∧
    cond (decide (((IntKind.i64.wrap (t18_1 + k)) : Int) < ((t24_l_1 : Nat) : Int))) (
      ∃ (t29_1 : Addr),
      r = some t29_1 ∧
      ∃ (t33_1 : Addr),
      r = some t33_1 ∧
      ∃ (t35_1 : Int),
      w.drew.cell? (t33_1.add 1) = some (.int .i64 t35_1) ∧
      ∃ (t31_a_1 : Option Addr) (t31_l_1 : Nat) (t31_c_1 : Nat),
      w.drew.cell? t29_1 = some (.slice t31_a_1 t31_l_1 t31_c_1) ∧
      ∃ (t38_1 : Addr),
      t31_a_1 = some t38_1 ∧
      0 ≤ ((IntKind.i64.wrap (t35_1 + k)) : Int) ∧
      ((IntKind.i64.wrap (t35_1 + k)) : Int) < ((t31_l_1 : Nat) : Int) ∧
      ∃ (t39_1 : Bool),
      w.drew.cell? (t38_1.add (Int.toNat (IntKind.i64.wrap (t35_1 + k)) * 1)) = some (.bool t39_1) ∧
      S23_k2 r was k (!t39_1) w.drew R B1
    ) (
      S23_k2 r was k false w.drew R B1
    )
  )

def S23_k0 (r : Option Addr) (w : World) (R : Value → World → Prop) : Prop :=
  ∃ (t12 : Addr),
  r = some t12 ∧
  ∃ (t14 : Int),
  w.cell? (t12.add 1) = some (.int .i64 t14) ∧
  ∃ (I : (Int) × Unit → World → Prop) (μ : (Int) × Unit → World → Nat),
  I (0, ()) w ∧
  ∀ (J : Env) (s : (Int) × Unit) (w' : World), I s w' →
    S23_L1 r t14 s.1 w' R (fun s' w'' => I s' w'' ∧ μ s' w'' < μ s w')

def S23 (r : Option Addr) (w : World) (R : Value → World → Prop) : Prop :=
  ∃ (t7 : Addr),
  r = some t7 ∧
  ∃ (t9 : Int),
  w.cell? (t7.add 2) = some (.int .i64 t9) ∧
  cond (!decide ((t9 : Int) = 0)) (
    R (.int .u64 0) w
  ) (
    S23_k0 r w R
  )

theorem S23_eq (r : Option Addr) (w : World) (R : Value → World → Prop) : Eng.R Try.prog ⟨cal, S23_nx⟩ 73 S23_ann [] (Try.f23.body.getD .skip) (bodyQ Try.prog #[.tmp 2] R) (argE [(.pointer r)]) w = S23 r w R := by kernel_rfl
/-- A call of '(*carfax/carfaxref01.Reader).Count', by its condition. -/
theorem S23_calls {r : Option Addr} {w : World} {R : Value → World → Prop} (hS : S23 r w R) : Ret Try.prog 23 [(.pointer r)] w R :=
  R_calls (C := ⟨cal, S23_nx⟩) cal_ok follows Try.func23 (c := Try.f23.body.getD .skip) (res := #[.tmp 2]) (n := 73) (by kernel_rfl) (by kernel_rfl) (by kernel_rfl) (by kernel_rfl) ((S23_eq r w R).mpr hS)

def S24_ann (p : List Nat) : Option LA := match p with
  | [0, 1, 0, 1, 1, 1] => some ⟨[0, 34], [(5, .one (.int .u64)), (35, .one (.int .i64))]⟩
  | _ => none

def S24_nx (t : Nat) : Option (TypeId × TypeId) := none

def S24_k5 (r : Option Addr) (n_ : Int) (t34 : Int) (t35 : Int) (w : World) (R : Value → World → Prop) (B1 : (Int) × (Int) × Unit → World → Prop) : Prop :=
  ∃ (t44 : Addr),
  r = some t44 ∧
  ∃ (t46 : Int),
  w.cell? (t44.add 1) = some (.int .i64 t46) ∧
  ∃ (t48 : Addr),
  r = some t48 ∧
  (∃ u, w.cell? (t48.add 1) = some u) ∧
  w.frozen? (t48.add 1) = false ∧
  B1 (n_, (IntKind.i64.wrap (t35 + 1)), ()) (w.setCell (t48.add 1) (.int .i64 (IntKind.i64.wrap (t46 + 1))))

def S24_k4 (r : Option Addr) (n_ : Int) (t34 : Int) (t35 : Int) (w : World) (R : Value → World → Prop) (B1 : (Int) × (Int) × Unit → World → Prop) : Prop :=
  0 ≤ (1 : Int) ∧
  Calls Try.prog 31 ⟨[(.pointer r), (.int .i64 0)]⟩ w fun e w_ =>
    ∃ (t40 : Bool),
    e = .returned (.bool t40) ∧
    cond t40 (
      S24_k5 r (bitsI .or .u64 (IntKind.u64.wrap (n_ * 2 ^ (min (Int.toNat 1) (IntKind.u64.bits)))) 1) t34 t35 w_ R B1
    ) (
      S24_k5 r (IntKind.u64.wrap (n_ * 2 ^ (min (Int.toNat 1) (IntKind.u64.bits)))) t34 t35 w_ R B1
    )

def S24_L3 (r : Option Addr) (n_ : Int) (t34 : Int) (t35 : Int) (w : World) (R : Value → World → Prop) (B1 : (Int) × (Int) × Unit → World → Prop) : Prop :=
  cond (decide ((t35 : Int) < t34)) (
    S24_k4 r n_ t34 t35 w R B1
  ) (
    R (.int .u64 n_) w
  )

def S24_k2 (r : Option Addr) (many : Int) (w : World) (R : Value → World → Prop) : Prop :=
  ∃ (I : (Int) × (Int) × Unit → World → Prop) (μ : (Int) × (Int) × Unit → World → Nat),
  I (0, 0, ()) w ∧
  ∀ (J : Env) (s : (Int) × (Int) × Unit) (w' : World), I s w' →
    S24_L3 r s.1 many s.2.1 w' R (fun s' w'' => I s' w'' ∧ μ s' w'' < μ s w')

def S24_k1 (r : Option Addr) (many : Int) (t16 : Bool) (w : World) (R : Value → World → Prop) : Prop :=
  cond t16 (
    ∃ (t24 : Addr),
    r = some t24 ∧
    (∃ u, w.cell? (t24.add 2) = some u) ∧
    w.frozen? (t24.add 2) = false ∧
    R (.int .u64 0) (w.setCell (t24.add 2) (.int .i64 1))
  ) (
    Calls Try.prog 26 ⟨[(.pointer r)]⟩ w fun e w_ =>
      ∃ (t29 : Int),
      e = .returned (.int .i64 t29) ∧
      cond (decide ((t29 : Int) < many)) (
        ∃ (t32 : Addr),
        r = some t32 ∧
        (∃ u, w_.cell? (t32.add 2) = some u) ∧
        w_.frozen? (t32.add 2) = false ∧
        R (.int .u64 0) (w_.setCell (t32.add 2) (.int .i64 10))
      ) (
        S24_k2 r many w_ R
      )
  )

def S24_k0 (r : Option Addr) (many : Int) (t6 : Bool) (w : World) (R : Value → World → Prop) : Prop :=
  cond t6 (
    R (.int .u64 0) w
  ) (
    cond (decide ((many : Int) < 0)) (
      S24_k1 r many true w R
    ) (
      S24_k1 r many (decide ((64 : Int) < many)) w R
    )
  )

def S24 (r : Option Addr) (many : Int) (w : World) (R : Value → World → Prop) : Prop :=
  cond (Option.isNone r) (
    S24_k0 r many true w R
  ) (
    ∃ (t11 : Addr),
    r = some t11 ∧
    ∃ (t13 : Int),
    w.cell? (t11.add 2) = some (.int .i64 t13) ∧
    S24_k0 r many (!decide ((t13 : Int) = 0)) w R
  )

theorem S24_eq (r : Option Addr) (many : Int) (w : World) (R : Value → World → Prop) : Eng.R Try.prog ⟨cal, S24_nx⟩ 52 S24_ann [] (Try.f24.body.getD .skip) (bodyQ Try.prog #[.tmp 4] R) (argE [(.pointer r), (.int .i64 many)]) w = S24 r many w R := by kernel_rfl
/-- A call of '(*carfax/bits.Reader).Get', by its condition. -/
theorem S24_calls {r : Option Addr} {many : Int} {w : World} {R : Value → World → Prop} (hS : S24 r many w R) : Ret Try.prog 24 [(.pointer r), (.int .i64 many)] w R :=
  R_calls (C := ⟨cal, S24_nx⟩) cal_ok follows Try.func24 (c := Try.f24.body.getD .skip) (res := #[.tmp 4]) (n := 52) (by kernel_rfl) (by kernel_rfl) (by kernel_rfl) (by kernel_rfl) ((S24_eq r many w R).mpr hS)

def S25_ann (p : List Nat) : Option LA := match p with
  | [0, 1, 0, 1, 1, 1, 1, 1] => some ⟨[0, 1], [(5, .one (.int .u64)), (6, .one (.int .i64))]⟩
  | _ => none

def S25_nx (t : Nat) : Option (TypeId × TypeId) := none

def S25_k7 (r : Option Addr) (many : Int) (n_ : Int) (i : Int) (t68 : Bool) (w : World) (R : Value → World → Prop) (B1 : (Int) × (Int) × Unit → World → Prop) : Prop :=
  cond t68 (
    B1 ((IntKind.u64.wrap (n_ + 1)), (IntKind.i64.wrap (i + 1)), ()) w
  ) (
    B1 (n_, (IntKind.i64.wrap (i + 1)), ()) w
  )

def S25_k6 (r : Option Addr) (many : Int) (n_ : Int) (i : Int) (w : World) (R : Value → World → Prop) (B1 : (Int) × (Int) × Unit → World → Prop) : Prop :=
  ∃ (t58 : Addr),
  r = some t58 ∧
  ∃ (t62 : Addr),
  r = some t62 ∧
  ∃ (t64 : Int),
  w.drew.cell? (t62.add 1) = some (.int .i64 t64) ∧
  ∃ (t60_a : Option Addr) (t60_l : Nat) (t60_c : Nat),
  w.drew.cell? t58 = some (.slice t60_a t60_l t60_c) ∧
  ∃ (t67 : Addr),
  t60_a = some t67 ∧
  0 ≤ ((IntKind.i64.wrap (t64 + i)) : Int) ∧
  ((IntKind.i64.wrap (t64 + i)) : Int) < ((t60_l : Nat) : Int) ∧
  ∃ (t68 : Bool),
  w.drew.cell? (t67.add (Int.toNat (IntKind.i64.wrap (t64 + i)) * 1)) = some (.bool t68) ∧
  S25_k7 r many (IntKind.u64.wrap (n_ * 2)) i t68 w.drew R B1

def S25_k8 (r : Option Addr) (many : Int) (n_ : Int) (w : World) (R : Value → World → Prop) : Prop :=
  ∃ (t73 : Addr),
  r = some t73 ∧
  ∃ (t75 : Int),
  w.cell? (t73.add 1) = some (.int .i64 t75) ∧
  ∃ (t78 : Addr),
  r = some t78 ∧
  (∃ u, w.cell? (t78.add 1) = some u) ∧
  w.frozen? (t78.add 1) = false ∧
  R (.int .u64 n_) (w.setCell (t78.add 1) (.int .i64 (IntKind.i64.wrap (t75 + many))))

def S25_L5 (r : Option Addr) (many : Int) (n_ : Int) (i : Int) (w : World) (R : Value → World → Prop) (B1 : (Int) × (Int) × Unit → World → Prop) : Prop :=
  cond (decide ((i : Int) < many)) (
    S25_k6 r many n_ i w R B1
  ) (
    S25_k8 r many n_ w R
  )

def S25_k4 (r : Option Addr) (many : Int) (w : World) (R : Value → World → Prop) : Prop :=
  ∃ (I : (Int) × (Int) × Unit → World → Prop) (μ : (Int) × (Int) × Unit → World → Nat),
  I (0, 0, ()) w ∧
  ∀ (J : Env) (s : (Int) × (Int) × Unit) (w' : World), I s w' →
    S25_L5 r many s.1 s.2.1 w' R (fun s' w'' => I s' w'' ∧ μ s' w'' < μ s w')

def S25_k3 (r : Option Addr) (many : Int) (w : World) (R : Value → World → Prop) : Prop :=
  ∃ (t46 : Addr),
  r = some t46 ∧
  ∃ (t48 : Int),
  w.cell? (t46.add 2) = some (.int .i64 t48) ∧
  cond (!decide ((t48 : Int) = 0)) (
    R (.int .u64 0) w
  ) (
    S25_k4 r many w R
  )

def S25_k2 (r : Option Addr) (many : Int) (t41 : Bool) (w : World) (R : Value → World → Prop) : Prop :=
  cond t41 (
    ∃ (t43 : Addr),
    r = some t43 ∧
    (∃ u, w.cell? (t43.add 2) = some u) ∧
    w.frozen? (t43.add 2) = false ∧
    S25_k3 r many (w.setCell (t43.add 2) (.int .i64 10)) R
  ) (
    S25_k3 r many w R
  )

def S25_k1 (r : Option Addr) (many : Int) (w : World) (R : Value → World → Prop) : Prop :=
  ∃ (t24 : Addr),
  r = some t24 ∧
  ∃ (t26 : Int),
  w.drew.cell? (t24.add 2) = some (.int .i64 t26) ∧
  cond (decide ((t26 : Int) = 0)) (
    ∃ (t31 : Addr),
    r = some t31 ∧
    ∃ (t36 : Addr),
    r = some t36 ∧
    ∃ (t33_a : Option Addr) (t33_l : Nat) (t33_c : Nat),
    w.drew.cell? t31 = some (.slice t33_a t33_l t33_c) ∧
    ∃ (t38 : Int),
    w.drew.cell? (t36.add 1) = some (.int .i64 t38) ∧
    S25_k2 r many (decide (((IntKind.i64.wrap (((t33_l : Nat) : Int) - t38)) : Int) < many)) w.drew R
  ) (
    S25_k2 r many false w.drew R
  )

def S25_k0 (r : Option Addr) (many : Int) (t19 : Bool) (w : World) (R : Value → World → Prop) : Prop :=
  cond t19 (
    ∃ (t21 : Addr),
    r = some t21 ∧
    (∃ u, w.cell? (t21.add 2) = some u) ∧
    w.frozen? (t21.add 2) = false ∧
    S25_k1 r many (w.setCell (t21.add 2) (.int .i64 1)) R
  ) (
    S25_k1 r many w R
  )

def S25 (r : Option Addr) (many : Int) (w : World) (R : Value → World → Prop) : Prop :=
  ∃ (t8 : Addr),
  r = some t8 ∧
  ∃ (t10 : Int),
  w.cell? (t8.add 2) = some (.int .i64 t10) ∧
  cond (decide ((t10 : Int) = 0)) (
    cond (decide ((many : Int) < 0)) (
      S25_k0 r many true w R
    ) (
      S25_k0 r many (decide ((64 : Int) < many)) w R
    )
  ) (
    S25_k0 r many false w R
  )

theorem S25_eq (r : Option Addr) (many : Int) (w : World) (R : Value → World → Prop) : Eng.R Try.prog ⟨cal, S25_nx⟩ 81 S25_ann [] (Try.f25.body.getD .skip) (bodyQ Try.prog #[.tmp 4] R) (argE [(.pointer r), (.int .i64 many)]) w = S25 r many w R := by kernel_rfl
/-- A call of '(*carfax/carfaxref01.Reader).Get', by its condition. -/
theorem S25_calls {r : Option Addr} {many : Int} {w : World} {R : Value → World → Prop} (hS : S25 r many w R) : Ret Try.prog 25 [(.pointer r), (.int .i64 many)] w R :=
  R_calls (C := ⟨cal, S25_nx⟩) cal_ok follows Try.func25 (c := Try.f25.body.getD .skip) (res := #[.tmp 4]) (n := 81) (by kernel_rfl) (by kernel_rfl) (by kernel_rfl) (by kernel_rfl) ((S25_eq r many w R).mpr hS)

def S26_ann (p : List Nat) : Option LA :=
  none

def S26_nx (t : Nat) : Option (TypeId × TypeId) := none

def S26_k0 (r : Option Addr) (w : World) (R : Value → World → Prop) : Prop :=
  ∃ (t6 : Addr),
  r = some t6 ∧
  ∃ (t12 : Addr),
  r = some t12 ∧
  ∃ (t8_a : Option Addr) (t8_l : Nat) (t8_c : Nat),
  w.drew.cell? t6 = some (.slice t8_a t8_l t8_c) ∧
  ∃ (t14 : Int),
  w.drew.cell? (t12.add 1) = some (.int .i64 t14) ∧
  R (.int .i64 (IntKind.i64.wrap ((IntKind.i64.wrap (8 * ((t8_l : Nat) : Int))) - t14))) w.drew

def S26 (r : Option Addr) (w : World) (R : Value → World → Prop) : Prop :=
  cond (Option.isNone r) (
    R (.int .i64 0) w
  ) (
    S26_k0 r w R
  )

theorem S26_eq (r : Option Addr) (w : World) (R : Value → World → Prop) : Eng.R Try.prog ⟨cal, S26_nx⟩ 16 S26_ann [] (Try.f26.body.getD .skip) (bodyQ Try.prog #[.tmp 2] R) (argE [(.pointer r)]) w = S26 r w R := by kernel_rfl
/-- A call of '(*carfax/bits.Reader).Left', by its condition. -/
theorem S26_calls {r : Option Addr} {w : World} {R : Value → World → Prop} (hS : S26 r w R) : Ret Try.prog 26 [(.pointer r)] w R :=
  R_calls (C := ⟨cal, S26_nx⟩) cal_ok follows Try.func26 (c := Try.f26.body.getD .skip) (res := #[.tmp 2]) (n := 16) (by kernel_rfl) (by kernel_rfl) (by kernel_rfl) (by kernel_rfl) ((S26_eq r w R).mpr hS)

def S27_ann (p : List Nat) : Option LA := match p with
  | [0, 1, 0, 1, 1, 1, 1, 1] => some ⟨[0, 20], [(21, .one (.int .i64))]⟩
  | _ => none

def S27_nx (t : Nat) : Option (TypeId × TypeId) := none

def S27_k4 (r : Option Addr) (t20 : Int) (t21 : Int) (w : World) (R : Value → World → Prop) (B1 : (Int) × Unit → World → Prop) : Prop :=
  Calls Try.prog 31 ⟨[(.pointer r), (.int .i64 t21)]⟩ w fun e w_ =>
    ∃ (t26 : Bool),
    e = .returned (.bool t26) ∧
    cond t26 (
      R (.int .i64 11) w_
    ) (
      B1 ((IntKind.i64.wrap (t21 + 1)), ()) w_
    )

def S27_L3 (r : Option Addr) (t20 : Int) (t21 : Int) (w : World) (R : Value → World → Prop) (B1 : (Int) × Unit → World → Prop) : Prop :=
  cond (decide ((t21 : Int) < t20)) (
    S27_k4 r t20 t21 w R B1
  ) (
    R (.int .i64 0) w
  )

def S27_k2 (r : Option Addr) (left : Int) (w : World) (R : Value → World → Prop) : Prop :=
  ∃ (I : (Int) × Unit → World → Prop) (μ : (Int) × Unit → World → Nat),
  I (0, ()) w ∧
  ∀ (J : Env) (s : (Int) × Unit) (w' : World), I s w' →
    S27_L3 r left s.1 w' R (fun s' w'' => I s' w'' ∧ μ s' w'' < μ s w')

def S27_k1 (r : Option Addr) (w : World) (R : Value → World → Prop) : Prop :=
  Calls Try.prog 26 ⟨[(.pointer r)]⟩ w fun e w_ =>
    ∃ (t17 : Int),
    e = .returned (.int .i64 t17) ∧
    cond (decide ((7 : Int) < t17)) (
      R (.int .i64 11) w_
    ) (
      S27_k2 r t17 w_ R
    )

def S27_k0 (r : Option Addr) (w : World) (R : Value → World → Prop) : Prop :=
  ∃ (t8 : Addr),
  r = some t8 ∧
  ∃ (t10 : Int),
  w.cell? (t8.add 2) = some (.int .i64 t10) ∧
  cond (!decide ((t10 : Int) = 0)) (
    ∃ (t13 : Addr),
    r = some t13 ∧
    ∃ (t15 : Int),
    w.cell? (t13.add 2) = some (.int .i64 t15) ∧
    R (.int .i64 t15) w
  ) (
    S27_k1 r w R
  )

def S27 (r : Option Addr) (w : World) (R : Value → World → Prop) : Prop :=
  cond (Option.isNone r) (
    R (.int .i64 0) w
  ) (
    S27_k0 r w R
  )

theorem S27_eq (r : Option Addr) (w : World) (R : Value → World → Prop) : Eng.R Try.prog ⟨cal, S27_nx⟩ 28 S27_ann [] (Try.f27.body.getD .skip) (bodyQ Try.prog #[.tmp 2] R) (argE [(.pointer r)]) w = S27 r w R := by kernel_rfl
/-- A call of '(*carfax/bits.Reader).End', by its condition. -/
theorem S27_calls {r : Option Addr} {w : World} {R : Value → World → Prop} (hS : S27 r w R) : Ret Try.prog 27 [(.pointer r)] w R :=
  R_calls (C := ⟨cal, S27_nx⟩) cal_ok follows Try.func27 (c := Try.f27.body.getD .skip) (res := #[.tmp 2]) (n := 28) (by kernel_rfl) (by kernel_rfl) (by kernel_rfl) (by kernel_rfl) ((S27_eq r w R).mpr hS)

def S28_ann (p : List Nat) : Option LA := match p with
  | [0, 1, 0, 1, 1, 1] => some ⟨[0], [(3, .one (.int .i64))]⟩
  | _ => none

def S28_nx (t : Nat) : Option (TypeId × TypeId) := none

def S28_k4 (r : Option Addr) (i : Int) (w : World) (R : Value → World → Prop) (B1 : (Int) × Unit → World → Prop) : Prop :=
  ∃ (t38 : Addr),
  r = some t38 ∧
  ∃ (t40_a : Option Addr) (t40_l : Nat) (t40_c : Nat),
  w.cell? t38 = some (.slice t40_a t40_l t40_c) ∧
  ∃ (t42 : Addr),
  t40_a = some t42 ∧
  0 ≤ (i : Int) ∧
  (i : Int) < ((t40_l : Nat) : Int) ∧
  ∃ (t43 : Bool),
  w.cell? (t42.add (Int.toNat i * 1)) = some (.bool t43) ∧
  cond t43 (
    R (.int .i64 11) w
  ) (
    B1 ((IntKind.i64.wrap (i + 1)), ()) w
  )

def S28_L3 (r : Option Addr) (i : Int) (w : World) (R : Value → World → Prop) (B1 : (Int) × Unit → World → Prop) : Prop :=
  ∃ (t30 : Addr),
  r = some t30 ∧
  ∃ (t32_a : Option Addr) (t32_l : Nat) (t32_c : Nat),
  w.cell? t30 = some (.slice t32_a t32_l t32_c) ∧
  cond (decide ((i : Int) < ((t32_l : Nat) : Int))) (
    S28_k4 r i w R B1
  ) (
    R (.int .i64 0) w
  )

def S28_k2 (r : Option Addr) (w : World) (R : Value → World → Prop) : Prop :=
  ∃ (t25 : Addr),
  r = some t25 ∧
  ∃ (t27 : Int),
  w.cell? (t25.add 1) = some (.int .i64 t27) ∧
  ∃ (I : (Int) × Unit → World → Prop) (μ : (Int) × Unit → World → Nat),
  I (t27, ()) w ∧
  ∀ (J : Env) (s : (Int) × Unit) (w' : World), I s w' →
    S28_L3 r s.1 w' R (fun s' w'' => I s' w'' ∧ μ s' w'' < μ s w')

def S28_k1 (r : Option Addr) (t23 : Bool) (w : World) (R : Value → World → Prop) : Prop :=
  cond t23 (
    R (.int .i64 11) w
  ) (
    S28_k2 r w R
  )

def S28_k0 (r : Option Addr) (w : World) (R : Value → World → Prop) : Prop :=
  ∃ (t14 : Addr),
  r = some t14 ∧
  ∃ (t19 : Addr),
  r = some t19 ∧
  ∃ (t16_a : Option Addr) (t16_l : Nat) (t16_c : Nat),
  w.drew.cell? t14 = some (.slice t16_a t16_l t16_c) ∧
  ∃ (t21 : Int),
  w.drew.cell? (t19.add 1) = some (.int .i64 t21) ∧
  S28_k1 r (decide ((7 : Int) < (IntKind.i64.wrap (((t16_l : Nat) : Int) - t21)))) w.drew R

def S28 (r : Option Addr) (w : World) (R : Value → World → Prop) : Prop :=
  ∃ (t5 : Addr),
  r = some t5 ∧
  ∃ (t7 : Int),
  w.cell? (t5.add 2) = some (.int .i64 t7) ∧
  cond (!decide ((t7 : Int) = 0)) (
    ∃ (t10 : Addr),
    r = some t10 ∧
    ∃ (t12 : Int),
    w.cell? (t10.add 2) = some (.int .i64 t12) ∧
    R (.int .i64 t12) w
  ) (
    S28_k0 r w R
  )

theorem S28_eq (r : Option Addr) (w : World) (R : Value → World → Prop) : Eng.R Try.prog ⟨cal, S28_nx⟩ 44 S28_ann [] (Try.f28.body.getD .skip) (bodyQ Try.prog #[.tmp 2] R) (argE [(.pointer r)]) w = S28 r w R := by kernel_rfl
/-- A call of '(*carfax/carfaxref01.Reader).End', by its condition. -/
theorem S28_calls {r : Option Addr} {w : World} {R : Value → World → Prop} (hS : S28 r w R) : Ret Try.prog 28 [(.pointer r)] w R :=
  R_calls (C := ⟨cal, S28_nx⟩) cal_ok follows Try.func28 (c := Try.f28.body.getD .skip) (res := #[.tmp 2]) (n := 44) (by kernel_rfl) (by kernel_rfl) (by kernel_rfl) (by kernel_rfl) ((S28_eq r w R).mpr hS)

def S29_ann (p : List Nat) : Option LA :=
  none

def S29_nx (t : Nat) : Option (TypeId × TypeId) := none

def S29_k2 (x : Int) (n_ : Int) (w : World) (R : Value → World → Prop) : Prop :=
  ∃ (t22 : UInt8),
  0 ≤ ((IntKind.u8.wrap x) : Int) ∧
  ((⟨#[0, 1, 2, 2, 3, 3, 3, 3, 4, 4, 4, 4, 4, 4, 4, 4, 5, 5, 5, 5, 5, 5, 5, 5, 5, 5, 5, 5, 5, 5, 5, 5, 6, 6, 6, 6, 6, 6, 6, 6, 6, 6, 6, 6, 6, 6, 6, 6, 6, 6, 6, 6, 6, 6, 6, 6, 6, 6, 6, 6, 6, 6, 6, 6, 7, 7, 7, 7, 7, 7, 7, 7, 7, 7, 7, 7, 7, 7, 7, 7, 7, 7, 7, 7, 7, 7, 7, 7, 7, 7, 7, 7, 7, 7, 7, 7, 7, 7, 7, 7, 7, 7, 7, 7, 7, 7, 7, 7, 7, 7, 7, 7, 7, 7, 7, 7, 7, 7, 7, 7, 7, 7, 7, 7, 7, 7, 7, 7, 8, 8, 8, 8, 8, 8, 8, 8, 8, 8, 8, 8, 8, 8, 8, 8, 8, 8, 8, 8, 8, 8, 8, 8, 8, 8, 8, 8, 8, 8, 8, 8, 8, 8, 8, 8, 8, 8, 8, 8, 8, 8, 8, 8, 8, 8, 8, 8, 8, 8, 8, 8, 8, 8, 8, 8, 8, 8, 8, 8, 8, 8, 8, 8, 8, 8, 8, 8, 8, 8, 8, 8, 8, 8, 8, 8, 8, 8, 8, 8, 8, 8, 8, 8, 8, 8, 8, 8, 8, 8, 8, 8, 8, 8, 8, 8, 8, 8, 8, 8, 8, 8, 8, 8, 8, 8, 8, 8, 8, 8, 8, 8, 8, 8, 8, 8, 8, 8, 8, 8, 8, 8, 8, 8, 8, 8, 8, 8]⟩ : ByteArray))[Int.toNat (IntKind.u8.wrap x)]? = some t22 ∧
  R (.int .i64 (IntKind.i64.wrap (n_ + (IntKind.i64.wrap (t22.toNat : Int))))) w

def S29_k1 (x : Int) (n_ : Int) (w : World) (R : Value → World → Prop) : Prop :=
  cond (decide ((256 : Int) ≤ x)) (
    0 ≤ (8 : Int) ∧
    S29_k2 (Int.fdiv x (2 ^ (min (Int.toNat 8) (IntKind.u64.bits)))) (IntKind.i64.wrap (n_ + 8)) w R
  ) (
    S29_k2 x n_ w R
  )

def S29_k0 (x : Int) (n_ : Int) (w : World) (R : Value → World → Prop) : Prop :=
  cond (decide ((65536 : Int) ≤ x)) (
    0 ≤ (16 : Int) ∧
    S29_k1 (Int.fdiv x (2 ^ (min (Int.toNat 16) (IntKind.u64.bits)))) (IntKind.i64.wrap (n_ + 16)) w R
  ) (
    S29_k1 x n_ w R
  )

def S29 (x : Int) (w : World) (R : Value → World → Prop) : Prop :=
  cond (decide ((4294967296 : Int) ≤ x)) (
    0 ≤ (32 : Int) ∧
    S29_k0 (Int.fdiv x (2 ^ (min (Int.toNat 32) (IntKind.u64.bits)))) 32 w R
  ) (
    S29_k0 x 0 w R
  )

theorem S29_eq (x : Int) (w : World) (R : Value → World → Prop) : Eng.R Try.prog ⟨cal, S29_nx⟩ 25 S29_ann [] (Try.f29.body.getD .skip) (bodyQ Try.prog #[.tmp 2] R) (argE [(.int .u64 x)]) w = S29 x w R := by kernel_rfl
/-- A call of 'math/bits.Len64', by its condition. -/
theorem S29_calls {x : Int} {w : World} {R : Value → World → Prop} (hS : S29 x w R) : Ret Try.prog 29 [(.int .u64 x)] w R :=
  R_calls (C := ⟨cal, S29_nx⟩) cal_ok follows Try.func29 (c := Try.f29.body.getD .skip) (res := #[.tmp 2]) (n := 25) (by kernel_rfl) (by kernel_rfl) (by kernel_rfl) (by kernel_rfl) ((S29_eq x w R).mpr hS)

def S30_ann (p : List Nat) : Option LA :=
  none

def S30_nx (t : Nat) : Option (TypeId × TypeId) := none

def S30_k1 (w_ : Option Addr) (w : World) (R : Value → World → Prop) : Prop :=
  ∃ (t40 : Addr),
  w_ = some t40 ∧
  ∃ (t42 : Int),
  w.cell? (t40.add 1) = some (.int .i64 t42) ∧
  ∃ (t44 : Addr),
  w_ = some t44 ∧
  (∃ u, w.cell? (t44.add 1) = some u) ∧
  w.frozen? (t44.add 1) = false ∧
  R (.tuple ⟨[]⟩) (w.setCell (t44.add 1) (.int .i64 (IntKind.i64.wrap (t42 + 1))))

def S30_k0 (w_ : Option Addr) (one : Bool) (w : World) (R : Value → World → Prop) : Prop :=
  cond one (
    ∃ (t21 : Addr),
    w_ = some t21 ∧
    ∃ (t25 : Addr),
    w_ = some t25 ∧
    ∃ (t32 : Addr),
    w_ = some t32 ∧
    (
      ∃ (t23_a : Option Addr) (t23_l : Nat) (t23_c : Nat),
      w.drew.cell? t21 = some (.slice t23_a t23_l t23_c) ∧
      (
        ∃ (t27 : Int),
        w.drew.cell? (t25.add 1) = some (.int .i64 t27) ∧
        (8 : Int) ≠ 0 ∧
        ∃ (t29 : Addr),
        t23_a = some t29 ∧
        0 ≤ ((IntKind.i64.wrap (Int.tdiv t27 8)) : Int) ∧
        ((IntKind.i64.wrap (Int.tdiv t27 8)) : Int) < ((t23_l : Nat) : Int) ∧
        ∃ (t34 : Int),
        w.drew.cell? (t32.add 1) = some (.int .i64 t34) ∧
        (8 : Int) ≠ 0 ∧
        0 ≤ ((Int.tmod t34 8) : Int) ∧
        ∃ (t30 : Int),
        w.drew.cell? (t29.add (Int.toNat (IntKind.i64.wrap (Int.tdiv t27 8)) * 1)) = some (.int .u8 t30) ∧
        ∃ (t38 : Addr),
        t23_a = some t38 ∧
        0 ≤ ((IntKind.i64.wrap (Int.tdiv t27 8)) : Int) ∧
        ((IntKind.i64.wrap (Int.tdiv t27 8)) : Int) < ((t23_l : Nat) : Int) ∧
        (∃ u, w.drew.cell? (t38.add (Int.toNat (IntKind.i64.wrap (Int.tdiv t27 8)) * 1)) = some u) ∧
        w.drew.frozen? (t38.add (Int.toNat (IntKind.i64.wrap (Int.tdiv t27 8)) * 1)) = false ∧
        S30_k1 w_ (w.drew.setCell (t38.add (Int.toNat (IntKind.i64.wrap (Int.tdiv t27 8)) * 1)) (.int .u8 (bitsI .or .u8 t30 (Int.fdiv 128 (2 ^ (min (Int.toNat (Int.tmod t34 8)) (IntKind.u8.bits))))))) R
      ) ∧
      (
        ∃ (t34_1 : Int),
        w.drew.cell? (t32.add 1) = some (.int .i64 t34_1) ∧
        (8 : Int) ≠ 0 ∧
        0 ≤ ((Int.tmod t34_1 8) : Int) ∧
        ∃ (t27_1 : Int),
        w.drew.cell? (t25.add 1) = some (.int .i64 t27_1) ∧
        (8 : Int) ≠ 0 ∧
        ∃ (t29_1 : Addr),
        t23_a = some t29_1 ∧
        0 ≤ ((IntKind.i64.wrap (Int.tdiv t27_1 8)) : Int) ∧
        ((IntKind.i64.wrap (Int.tdiv t27_1 8)) : Int) < ((t23_l : Nat) : Int) ∧
        ∃ (t30_1 : Int),
        w.drew.cell? (t29_1.add (Int.toNat (IntKind.i64.wrap (Int.tdiv t27_1 8)) * 1)) = some (.int .u8 t30_1) ∧
        ∃ (t38_1 : Addr),
        t23_a = some t38_1 ∧
        0 ≤ ((IntKind.i64.wrap (Int.tdiv t27_1 8)) : Int) ∧
        ((IntKind.i64.wrap (Int.tdiv t27_1 8)) : Int) < ((t23_l : Nat) : Int) ∧
        (∃ u, w.drew.cell? (t38_1.add (Int.toNat (IntKind.i64.wrap (Int.tdiv t27_1 8)) * 1)) = some u) ∧
        w.drew.frozen? (t38_1.add (Int.toNat (IntKind.i64.wrap (Int.tdiv t27_1 8)) * 1)) = false ∧
        S30_k1 w_ (w.drew.setCell (t38_1.add (Int.toNat (IntKind.i64.wrap (Int.tdiv t27_1 8)) * 1)) (.int .u8 (bitsI .or .u8 t30_1 (Int.fdiv 128 (2 ^ (min (Int.toNat (Int.tmod t34_1 8)) (IntKind.u8.bits))))))) R
      )
    ) ∧
    (
      ∃ (t27_2 : Int),
      w.drew.cell? (t25.add 1) = some (.int .i64 t27_2) ∧
      (8 : Int) ≠ 0 ∧
      ∃ (t34_2 : Int),
      w.drew.cell? (t32.add 1) = some (.int .i64 t34_2) ∧
      (8 : Int) ≠ 0 ∧
      0 ≤ ((Int.tmod t34_2 8) : Int) ∧
      ∃ (t23_a_1 : Option Addr) (t23_l_1 : Nat) (t23_c_1 : Nat),
      w.drew.cell? t21 = some (.slice t23_a_1 t23_l_1 t23_c_1) ∧
      ∃ (t29_2 : Addr),
      t23_a_1 = some t29_2 ∧
      0 ≤ ((IntKind.i64.wrap (Int.tdiv t27_2 8)) : Int) ∧
      ((IntKind.i64.wrap (Int.tdiv t27_2 8)) : Int) < ((t23_l_1 : Nat) : Int) ∧
      ∃ (t30_2 : Int),
      w.drew.cell? (t29_2.add (Int.toNat (IntKind.i64.wrap (Int.tdiv t27_2 8)) * 1)) = some (.int .u8 t30_2) ∧
      ∃ (t38_2 : Addr),
      t23_a_1 = some t38_2 ∧
      0 ≤ ((IntKind.i64.wrap (Int.tdiv t27_2 8)) : Int) ∧
      ((IntKind.i64.wrap (Int.tdiv t27_2 8)) : Int) < ((t23_l_1 : Nat) : Int) ∧
      (∃ u, w.drew.cell? (t38_2.add (Int.toNat (IntKind.i64.wrap (Int.tdiv t27_2 8)) * 1)) = some u) ∧
      w.drew.frozen? (t38_2.add (Int.toNat (IntKind.i64.wrap (Int.tdiv t27_2 8)) * 1)) = false ∧
      S30_k1 w_ (w.drew.setCell (t38_2.add (Int.toNat (IntKind.i64.wrap (Int.tdiv t27_2 8)) * 1)) (.int .u8 (bitsI .or .u8 t30_2 (Int.fdiv 128 (2 ^ (min (Int.toNat (Int.tmod t34_2 8)) (IntKind.u8.bits))))))) R
    ) ∧
    (
      ∃ (t34_3 : Int),
      w.drew.cell? (t32.add 1) = some (.int .i64 t34_3) ∧
      (8 : Int) ≠ 0 ∧
      0 ≤ ((Int.tmod t34_3 8) : Int) ∧
      ∃ (t27_3 : Int),
      w.drew.cell? (t25.add 1) = some (.int .i64 t27_3) ∧
      (8 : Int) ≠ 0 ∧
      ∃ (t23_a_2 : Option Addr) (t23_l_2 : Nat) (t23_c_2 : Nat),
      w.drew.cell? t21 = some (.slice t23_a_2 t23_l_2 t23_c_2) ∧
      ∃ (t29_3 : Addr),
      t23_a_2 = some t29_3 ∧
      0 ≤ ((IntKind.i64.wrap (Int.tdiv t27_3 8)) : Int) ∧
      ((IntKind.i64.wrap (Int.tdiv t27_3 8)) : Int) < ((t23_l_2 : Nat) : Int) ∧
      ∃ (t30_3 : Int),
      w.drew.cell? (t29_3.add (Int.toNat (IntKind.i64.wrap (Int.tdiv t27_3 8)) * 1)) = some (.int .u8 t30_3) ∧
      ∃ (t38_3 : Addr),
      t23_a_2 = some t38_3 ∧
      0 ≤ ((IntKind.i64.wrap (Int.tdiv t27_3 8)) : Int) ∧
      ((IntKind.i64.wrap (Int.tdiv t27_3 8)) : Int) < ((t23_l_2 : Nat) : Int) ∧
      (∃ u, w.drew.cell? (t38_3.add (Int.toNat (IntKind.i64.wrap (Int.tdiv t27_3 8)) * 1)) = some u) ∧
      w.drew.frozen? (t38_3.add (Int.toNat (IntKind.i64.wrap (Int.tdiv t27_3 8)) * 1)) = false ∧
      S30_k1 w_ (w.drew.setCell (t38_3.add (Int.toNat (IntKind.i64.wrap (Int.tdiv t27_3 8)) * 1)) (.int .u8 (bitsI .or .u8 t30_3 (Int.fdiv 128 (2 ^ (min (Int.toNat (Int.tmod t34_3 8)) (IntKind.u8.bits))))))) R
    )
  ) (
    S30_k1 w_ w R
  )

def S30 (w_ : Option Addr) (one : Bool) (w : World) (R : Value → World → Prop) : Prop :=
  ∃ (t5 : Addr),
  w_ = some t5 ∧
  ∃ (t7 : Int),
  w.cell? (t5.add 1) = some (.int .i64 t7) ∧
  (8 : Int) ≠ 0 ∧
  cond (decide (((Int.tmod t7 8) : Int) = 0)) (
    ∃ (t12 : Addr),
    w_ = some t12 ∧
    ∃ (t14_a : Option Addr) (t14_l : Nat) (t14_c : Nat),
    w.cell? t12 = some (.slice t14_a t14_l t14_c) ∧
    ∃ (t16_a : Option Addr) (t16_l : Nat) (t16_c : Nat) (w__1 : World),
    (Builtin.append_ #[37, 37] 37 ⟨[(.slice t14_a t14_l t14_c), (.slice (some ⟨w.heap.size, 0, none⟩) 1 1)]⟩).run Try.prog (w.alloc (.cells ⟨[(.int .u8 0)]⟩ 5)) = .ok (.slice t16_a t16_l t16_c) w__1 ∧
    ∃ (t17 : Addr),
    w_ = some t17 ∧
    (∃ u, w__1.cell? t17 = some u) ∧
    w__1.frozen? t17 = false ∧
    S30_k0 w_ one (w__1.setCell t17 (.slice t16_a t16_l t16_c)) R
  ) (
    S30_k0 w_ one w R
  )

theorem S30_eq (w_ : Option Addr) (one : Bool) (w : World) (R : Value → World → Prop) : Eng.R Try.prog ⟨cal, S30_nx⟩ 46 S30_ann [] (Try.f30.body.getD .skip) (bodyQ Try.prog #[] R) (argE [(.pointer w_), (.bool one)]) w = S30 w_ one w R := by kernel_rfl
/-- A call of '(*carfax/bits.Writer).bit', by its condition. -/
theorem S30_calls {w_ : Option Addr} {one : Bool} {w : World} {R : Value → World → Prop} (hS : S30 w_ one w R) : Ret Try.prog 30 [(.pointer w_), (.bool one)] w R :=
  R_calls (C := ⟨cal, S30_nx⟩) cal_ok follows Try.func30 (c := Try.f30.body.getD .skip) (res := #[]) (n := 46) (by kernel_rfl) (by kernel_rfl) (by kernel_rfl) (by kernel_rfl) ((S30_eq w_ one w R).mpr hS)

def S31_ann (p : List Nat) : Option LA :=
  none

def S31_nx (t : Nat) : Option (TypeId × TypeId) := none

def S31 (r : Option Addr) (ahead : Int) (w : World) (R : Value → World → Prop) : Prop :=
  ∃ (t7 : Addr),
  r = some t7 ∧
  ∃ (t9 : Int),
  w.cell? (t7.add 1) = some (.int .i64 t9) ∧
  ∃ (t13 : Addr),
  r = some t13 ∧
  ∃ (t15_a : Option Addr) (t15_l : Nat) (t15_c : Nat),
  w.cell? t13 = some (.slice t15_a t15_l t15_c) ∧
  (8 : Int) ≠ 0 ∧
  ∃ (t18 : Addr),
  t15_a = some t18 ∧
  0 ≤ ((IntKind.i64.wrap (Int.tdiv (IntKind.i64.wrap (t9 + ahead)) 8)) : Int) ∧
  ((IntKind.i64.wrap (Int.tdiv (IntKind.i64.wrap (t9 + ahead)) 8)) : Int) < ((t15_l : Nat) : Int) ∧
  ∃ (t19 : Int),
  w.cell? (t18.add (Int.toNat (IntKind.i64.wrap (Int.tdiv (IntKind.i64.wrap (t9 + ahead)) 8)) * 1)) = some (.int .u8 t19) ∧
  (8 : Int) ≠ 0 ∧
  0 ≤ ((IntKind.i64.wrap (7 - (Int.tmod (IntKind.i64.wrap (t9 + ahead)) 8))) : Int) ∧
  R (.bool (decide (((bitsI .and .u8 (Int.fdiv t19 (2 ^ (min (Int.toNat (IntKind.i64.wrap (7 - (Int.tmod (IntKind.i64.wrap (t9 + ahead)) 8)))) (IntKind.u8.bits)))) 1) : Int) = 1))) w

theorem S31_eq (r : Option Addr) (ahead : Int) (w : World) (R : Value → World → Prop) : Eng.R Try.prog ⟨cal, S31_nx⟩ 26 S31_ann [] (Try.f31.body.getD .skip) (bodyQ Try.prog #[.tmp 4] R) (argE [(.pointer r), (.int .i64 ahead)]) w = S31 r ahead w R := by kernel_rfl
/-- A call of '(*carfax/bits.Reader).one', by its condition. -/
theorem S31_calls {r : Option Addr} {ahead : Int} {w : World} {R : Value → World → Prop} (hS : S31 r ahead w R) : Ret Try.prog 31 [(.pointer r), (.int .i64 ahead)] w R :=
  R_calls (C := ⟨cal, S31_nx⟩) cal_ok follows Try.func31 (c := Try.f31.body.getD .skip) (res := #[.tmp 4]) (n := 26) (by kernel_rfl) (by kernel_rfl) (by kernel_rfl) (by kernel_rfl) ((S31_eq r ahead w R).mpr hS)

end Go.Proofs
