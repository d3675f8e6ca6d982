import Derived.Test.YtmhjjhpgbafjpaaDoorProg
import Derived.Test.YtmhjjhpgbafjpaaDoorEng8
import Derived.Test.YtmhjjhpgbafjpaaDoorSAfree
set_option linter.unusedVariables false
set_option maxRecDepth 100000
namespace Go.Proofs
open Go Go.Eng
def S17_ann (p : List Nat) : Option LA := match p with
  | [0, 1, 1, 1, 1, 1] => some ⟨[0, 4], [(5, .one .slice), (6, .one .addr), (7, .one .bool)]⟩
  | [0, 1, 1, 1, 1, 0, 0, 1, 0, 0, 1, 1, 1, 1, 1] => some ⟨[0, 4, 6, 68, 69], [(5, .one .slice), (70, .one (.int .i64))]⟩
  | _ => none

def S17_nx (t : Nat) : Option (TypeId × TypeId) := none

def S17_k2 (s_ : Option Addr) (h : Option Addr) (all_a : Option Addr) (all_l : Nat) (all_c : Nat) (x : Addr) (w : World) (R : Value → World → Prop) (B1 : (Option Addr × Nat × Nat) × (Addr) × (Bool) × Unit → World → Prop) : Prop :=
  ∃ (t90_0 : Int),
  w.cell? x = some (.int .i64 t90_0) ∧
  ∃ (t90_1 : Int),
  w.cell? (x.add 1) = some (.int .i64 t90_1) ∧
  (∃ u, (w.alloc (.cells ⟨[(.int .i64 0), (.int .i64 0)]⟩ 86)).cell? ⟨w.heap.size, 0, none⟩ = some u) ∧
  (w.alloc (.cells ⟨[(.int .i64 0), (.int .i64 0)]⟩ 86)).frozen? ⟨w.heap.size, 0, none⟩ = false ∧
  (∃ u, ((w.alloc (.cells ⟨[(.int .i64 0), (.int .i64 0)]⟩ 86)).setCell ⟨w.heap.size, 0, none⟩ (.int .i64 t90_0)).cell? ⟨w.heap.size, 1, none⟩ = some u) ∧
  ((w.alloc (.cells ⟨[(.int .i64 0), (.int .i64 0)]⟩ 86)).setCell ⟨w.heap.size, 0, none⟩ (.int .i64 t90_0)).frozen? ⟨w.heap.size, 1, none⟩ = false ∧
  Calls Tryd.prog 36 ⟨[(.pointer h)]⟩ (((w.alloc (.cells ⟨[(.int .i64 0), (.int .i64 0)]⟩ 86)).setCell ⟨w.heap.size, 0, none⟩ (.int .i64 t90_0)).setCell ⟨w.heap.size, 1, none⟩ (.int .i64 t90_1)) fun e w_ =>
    ∃ (t39_0_0 : Int) (t39_0_1 : Int) (t39_1 : Bool),
    e = .returned (.tuple ⟨[(.agg ⟨[(.int .i64 t39_0_0), (.int .i64 t39_0_1)]⟩), (.bool t39_1)]⟩) ∧
    (∃ u, w_.cell? ⟨w.heap.size, 0, none⟩ = some u) ∧
    w_.frozen? ⟨w.heap.size, 0, none⟩ = false ∧
    (∃ u, (w_.setCell ⟨w.heap.size, 0, none⟩ (.int .i64 t39_0_0)).cell? ⟨w.heap.size, 1, none⟩ = some u) ∧
    (w_.setCell ⟨w.heap.size, 0, none⟩ (.int .i64 t39_0_0)).frozen? ⟨w.heap.size, 1, none⟩ = false ∧
    B1 ((all_a, all_l, all_c), ⟨w.heap.size, 0, none⟩, t39_1, ()) ((w_.setCell ⟨w.heap.size, 0, none⟩ (.int .i64 t39_0_0)).setCell ⟨w.heap.size, 1, none⟩ (.int .i64 t39_0_1))

def S17_k6 (s_ : Option Addr) (h : Option Addr) (all_a : Option Addr) (all_l : Nat) (all_c : Nat) (x : Addr) (t68_a : Option Addr) (t68_l : Nat) (t68_c : Nat) (t69 : Int) (t70 : Int) (w : World) (R : Value → World → Prop) (B1 : (Option Addr × Nat × Nat) × (Addr) × (Bool) × Unit → World → Prop) (B2 : (Option Addr × Nat × Nat) × (Int) × Unit → World → Prop) : Prop :=
  ∃ (t72 : Addr),
  t68_a = some t72 ∧
  0 ≤ (t70 : Int) ∧
  (t70 : Int) < ((t68_l : Nat) : Int) ∧
  ∃ (t73_0 : Int),
  w.cell? (t72.add (Int.toNat t70 * 3)) = some (.int .i64 t73_0) ∧
  ∃ (t73_1 : Int),
  w.cell? ((t72.add (Int.toNat t70 * 3)).add 1) = some (.int .i64 t73_1) ∧
  ∃ (t73_2 : Int),
  w.cell? ((t72.add (Int.toNat t70 * 3)).add 2) = some (.int .i64 t73_2) ∧
  (∃ u, (w.alloc (.cells ⟨[(.int .i64 0), (.int .i64 0), (.int .i64 0)]⟩ 58)).cell? ⟨w.heap.size, 0, none⟩ = some u) ∧
  (w.alloc (.cells ⟨[(.int .i64 0), (.int .i64 0), (.int .i64 0)]⟩ 58)).frozen? ⟨w.heap.size, 0, none⟩ = false ∧
  (∃ u, ((w.alloc (.cells ⟨[(.int .i64 0), (.int .i64 0), (.int .i64 0)]⟩ 58)).setCell ⟨w.heap.size, 0, none⟩ (.int .i64 t73_0)).cell? ⟨w.heap.size, 1, none⟩ = some u) ∧
  ((w.alloc (.cells ⟨[(.int .i64 0), (.int .i64 0), (.int .i64 0)]⟩ 58)).setCell ⟨w.heap.size, 0, none⟩ (.int .i64 t73_0)).frozen? ⟨w.heap.size, 1, none⟩ = false ∧
  (∃ u, (((w.alloc (.cells ⟨[(.int .i64 0), (.int .i64 0), (.int .i64 0)]⟩ 58)).setCell ⟨w.heap.size, 0, none⟩ (.int .i64 t73_0)).setCell ⟨w.heap.size, 1, none⟩ (.int .i64 t73_1)).cell? ⟨w.heap.size, 2, none⟩ = some u) ∧
  (((w.alloc (.cells ⟨[(.int .i64 0), (.int .i64 0), (.int .i64 0)]⟩ 58)).setCell ⟨w.heap.size, 0, none⟩ (.int .i64 t73_0)).setCell ⟨w.heap.size, 1, none⟩ (.int .i64 t73_1)).frozen? ⟨w.heap.size, 2, none⟩ = false ∧
  ∃ (t75_0 : Int),
  ((((w.alloc (.cells ⟨[(.int .i64 0), (.int .i64 0), (.int .i64 0)]⟩ 58)).setCell ⟨w.heap.size, 0, none⟩ (.int .i64 t73_0)).setCell ⟨w.heap.size, 1, none⟩ (.int .i64 t73_1)).setCell ⟨w.heap.size, 2, none⟩ (.int .i64 t73_2)).cell? ⟨w.heap.size, 0, none⟩ = some (.int .i64 t75_0) ∧
  ∃ (t75_1 : Int),
  ((((w.alloc (.cells ⟨[(.int .i64 0), (.int .i64 0), (.int .i64 0)]⟩ 58)).setCell ⟨w.heap.size, 0, none⟩ (.int .i64 t73_0)).setCell ⟨w.heap.size, 1, none⟩ (.int .i64 t73_1)).setCell ⟨w.heap.size, 2, none⟩ (.int .i64 t73_2)).cell? ⟨w.heap.size, 1, none⟩ = some (.int .i64 t75_1) ∧
  ∃ (t75_2 : Int),
  ((((w.alloc (.cells ⟨[(.int .i64 0), (.int .i64 0), (.int .i64 0)]⟩ 58)).setCell ⟨w.heap.size, 0, none⟩ (.int .i64 t73_0)).setCell ⟨w.heap.size, 1, none⟩ (.int .i64 t73_1)).setCell ⟨w.heap.size, 2, none⟩ (.int .i64 t73_2)).cell? ⟨w.heap.size, 2, none⟩ = some (.int .i64 t75_2) ∧
  Calls Tryd.prog 37 ⟨[(.pointer s_), (.agg ⟨[(.int .i64 t75_0), (.int .i64 t75_1), (.int .i64 t75_2)]⟩)]⟩ ((((w.alloc (.cells ⟨[(.int .i64 0), (.int .i64 0), (.int .i64 0)]⟩ 58)).setCell ⟨w.heap.size, 0, none⟩ (.int .i64 t73_0)).setCell ⟨w.heap.size, 1, none⟩ (.int .i64 t73_1)).setCell ⟨w.heap.size, 2, none⟩ (.int .i64 t73_2)) fun e w_ =>
    ∃ (t76 : Bool),
    e = .returned (.bool t76) ∧
    cond (!t76) (
      ∃ (t80 : Int),
      w_.cell? ⟨w.heap.size, 1, none⟩ = some (.int .i64 t80) ∧
      Calls Tryd.prog 35 ⟨[(.pointer h), (.agg ⟨[(.int .i64 t80), (.int .i64 ((all_l : Nat) : Int))]⟩)]⟩ w_ fun e w__1 =>
        e = .returned (.tuple ⟨[]⟩) ∧
        ∃ (t86_0 : Int),
        w__1.cell? ⟨w.heap.size, 0, none⟩ = some (.int .i64 t86_0) ∧
        ∃ (t86_1 : Int),
        w__1.cell? ⟨w.heap.size, 1, none⟩ = some (.int .i64 t86_1) ∧
        ∃ (t86_2 : Int),
        w__1.cell? ⟨w.heap.size, 2, none⟩ = some (.int .i64 t86_2) ∧
        ∃ (t88_a : Option Addr) (t88_l : Nat) (t88_c : Nat) (w__2 : World),
        (Builtin.append_ #[83, 83] 83 ⟨[(.slice all_a all_l all_c), (.slice (some ⟨w__1.heap.size, 0, none⟩) 1 1)]⟩).run Tryd.prog (w__1.alloc (.cells ⟨[(.int .i64 t86_0), (.int .i64 t86_1), (.int .i64 t86_2)]⟩ 58)) = .ok (.slice t88_a t88_l t88_c) w__2 ∧
        B2 ((t88_a, t88_l, t88_c), (IntKind.i64.wrap (t70 + 1)), ()) w__2
    ) (
      B2 ((all_a, all_l, all_c), (IntKind.i64.wrap (t70 + 1)), ()) w_
    )

def S17_L5 (s_ : Option Addr) (h : Option Addr) (all_a : Option Addr) (all_l : Nat) (all_c : Nat) (x : Addr) (t68_a : Option Addr) (t68_l : Nat) (t68_c : Nat) (t69 : Int) (t70 : Int) (w : World) (R : Value → World → Prop) (B1 : (Option Addr × Nat × Nat) × (Addr) × (Bool) × Unit → World → Prop) (B2 : (Option Addr × Nat × Nat) × (Int) × Unit → World → Prop) : Prop :=
  cond (decide ((t70 : Int) < t69)) (
    S17_k6 s_ h all_a all_l all_c x t68_a t68_l t68_c t69 t70 w R B1 B2
  ) (
    S17_k2 s_ h all_a all_l all_c x w R B1
  )

def S17_k4 (s_ : Option Addr) (h : Option Addr) (all_a : Option Addr) (all_l : Nat) (all_c : Nat) (x : Addr) (now : Addr) (w : World) (R : Value → World → Prop) (B1 : (Option Addr × Nat × Nat) × (Addr) × (Bool) × Unit → World → Prop) : Prop :=
  ∃ (t67_0 : Int),
  w.cell? now = some (.int .i64 t67_0) ∧
  ∃ (t67_1 : Int),
  w.cell? (now.add 1) = some (.int .i64 t67_1) ∧
  ∃ (t67_2 : Int),
  w.cell? (now.add 2) = some (.int .i64 t67_2) ∧
  Calls Tryd.prog 38 ⟨[(.pointer s_), (.agg ⟨[(.int .i64 t67_0), (.int .i64 t67_1), (.int .i64 t67_2)]⟩)]⟩ w fun e w_ =>
    ∃ (t68_a : Option Addr) (t68_l : Nat) (t68_c : Nat),
    e = .returned (.slice t68_a t68_l t68_c) ∧
    ∃ (I : (Option Addr × Nat × Nat) × (Int) × Unit → World → Prop) (μ : (Option Addr × Nat × Nat) × (Int) × Unit → World → Nat),
    I ((all_a, all_l, all_c), 0, ()) w_ ∧
    ∀ (J : Env) (s : (Option Addr × Nat × Nat) × (Int) × Unit) (w' : World), I s w' →
      S17_L5 s_ h s.1.1 s.1.2.1 s.1.2.2 x t68_a t68_l t68_c ((t68_l : Nat) : Int) s.2.1 w' R B1 (fun s' w'' => I s' w'' ∧ μ s' w'' < μ s w')

def S17_k3 (s_ : Option Addr) (h : Option Addr) (all_a : Option Addr) (all_l : Nat) (all_c : Nat) (x : Addr) (now : Addr) (w : World) (R : Value → World → Prop) (B1 : (Option Addr × Nat × Nat) × (Addr) × (Bool) × Unit → World → Prop) : Prop :=
  ∃ (t51 : Addr),
  s_ = some t51 ∧
  ∃ (t57 : Addr),
  s_ = some t57 ∧
  ∃ (t59 : Option Nat),
  w.drew.cell? (t57.add 7) = some (.map t59) ∧
  ∃ (t61 : Int),
  w.drew.cell? now = some (.int .i64 t61) ∧
  (
    ∃ (t53 : Option Nat),
    w.drew.cell? (t51.add 7) = some (.map t53) ∧
    (
      ∃ (t55 : Int),
      w.drew.cell? now = some (.int .i64 t55) ∧
      (
        ∃ (t62_a : Option Addr) (t62_l : Nat) (t62_c : Nat) (w_ : World),
        (Instr.lookup 73 (.map t59) (.int .i64 t61) false).run Tryd.prog w.drew = .ok (.slice t62_a t62_l t62_c) w_ ∧
        ∃ (t63_0 : Int),
        w_.cell? now = some (.int .i64 t63_0) ∧
        ∃ (t63_1 : Int),
        w_.cell? (now.add 1) = some (.int .i64 t63_1) ∧
        ∃ (t63_2 : Int),
        w_.cell? (now.add 2) = some (.int .i64 t63_2) ∧
        ∃ (t65_a : Option Addr) (t65_l : Nat) (t65_c : Nat) (w__1 : World),
        (Builtin.append_ #[83, 83] 83 ⟨[(.slice t62_a t62_l t62_c), (.slice (some ⟨w_.heap.size, 0, none⟩) 1 1)]⟩).run Tryd.prog (w_.alloc (.cells ⟨[(.int .i64 t63_0), (.int .i64 t63_1), (.int .i64 t63_2)]⟩ 58)) = .ok (.slice t65_a t65_l t65_c) w__1 ∧
        ∃ (w__2 : World),
        (Instr.mapUpdate 73 (.map t53) (.int .i64 t55) (.slice t65_a t65_l t65_c)).run Tryd.prog w__1 = .ok () w__2 ∧
        S17_k4 s_ h all_a all_l all_c x now w__2 R B1
      ) ∧
      (
        ∃ (t63_0_1 : Int),
        w.drew.cell? now = some (.int .i64 t63_0_1) ∧
        ∃ (t63_1_1 : Int),
        w.drew.cell? (now.add 1) = some (.int .i64 t63_1_1) ∧
        ∃ (t63_2_1 : Int),
        w.drew.cell? (now.add 2) = some (.int .i64 t63_2_1) ∧
        (
          ∃ (t62_a_1 : Option Addr) (t62_l_1 : Nat) (t62_c_1 : Nat) (w__3 : World),
          (Instr.lookup 73 (.map t59) (.int .i64 t61) false).run Tryd.prog w.drew = .ok (.slice t62_a_1 t62_l_1 t62_c_1) w__3 ∧
          ∃ (t65_a_1 : Option Addr) (t65_l_1 : Nat) (t65_c_1 : Nat) (w__4 : World),
          (Builtin.append_ #[83, 83] 83 ⟨[(.slice t62_a_1 t62_l_1 t62_c_1), (.slice (some ⟨w__3.heap.size, 0, none⟩) 1 1)]⟩).run Tryd.prog (w__3.alloc (.cells ⟨[(.int .i64 t63_0_1), (.int .i64 t63_1_1), (.int .i64 t63_2_1)]⟩ 58)) = .ok (.slice t65_a_1 t65_l_1 t65_c_1) w__4 ∧
          ∃ (w__5 : World),
          (Instr.mapUpdate 73 (.map t53) (.int .i64 t55) (.slice t65_a_1 t65_l_1 t65_c_1)).run Tryd.prog w__4 = .ok () w__5 ∧
          S17_k4 s_ h all_a all_l all_c x now w__5 R B1
        ) ∧
        (
          ∃ (t62_a_2 : Option Addr) (t62_l_2 : Nat) (t62_c_2 : Nat) (w__6 : World),
          (Instr.lookup 73 (.map t59) (.int .i64 t61) false).run Tryd.prog (w.drew.alloc (.cells ⟨[(.int .i64 t63_0_1), (.int .i64 t63_1_1), (.int .i64 t63_2_1)]⟩ 58)) = .ok (.slice t62_a_2 t62_l_2 t62_c_2) w__6 ∧
          ∃ (t65_a_2 : Option Addr) (t65_l_2 : Nat) (t65_c_2 : Nat) (w__7 : World),
          (Builtin.append_ #[83, 83] 83 ⟨[(.slice t62_a_2 t62_l_2 t62_c_2), (.slice (some ⟨w.drew.heap.size, 0, none⟩) 1 1)]⟩).run Tryd.prog w__6 = .ok (.slice t65_a_2 t65_l_2 t65_c_2) w__7 ∧
          ∃ (w__8 : World),
          (Instr.mapUpdate 73 (.map t53) (.int .i64 t55) (.slice t65_a_2 t65_l_2 t65_c_2)).run Tryd.prog w__7 = .ok () w__8 ∧
          S17_k4 s_ h all_a all_l all_c x now w__8 R B1
        )
      )
    ) ∧
    (
      ∃ (t62_a_3 : Option Addr) (t62_l_3 : Nat) (t62_c_3 : Nat) (w__9 : World),
      (Instr.lookup 73 (.map t59) (.int .i64 t61) false).run Tryd.prog w.drew = .ok (.slice t62_a_3 t62_l_3 t62_c_3) w__9 ∧
      ∃ (t63_0_2 : Int),
      w__9.cell? now = some (.int .i64 t63_0_2) ∧
      ∃ (t63_1_2 : Int),
      w__9.cell? (now.add 1) = some (.int .i64 t63_1_2) ∧
      ∃ (t63_2_2 : Int),
      w__9.cell? (now.add 2) = some (.int .i64 t63_2_2) ∧
      (
        ∃ (t55_1 : Int),
        w__9.cell? now = some (.int .i64 t55_1) ∧
        ∃ (t65_a_3 : Option Addr) (t65_l_3 : Nat) (t65_c_3 : Nat) (w__10 : World),
        (Builtin.append_ #[83, 83] 83 ⟨[(.slice t62_a_3 t62_l_3 t62_c_3), (.slice (some ⟨w__9.heap.size, 0, none⟩) 1 1)]⟩).run Tryd.prog (w__9.alloc (.cells ⟨[(.int .i64 t63_0_2), (.int .i64 t63_1_2), (.int .i64 t63_2_2)]⟩ 58)) = .ok (.slice t65_a_3 t65_l_3 t65_c_3) w__10 ∧
        ∃ (w__11 : World),
        (Instr.mapUpdate 73 (.map t53) (.int .i64 t55_1) (.slice t65_a_3 t65_l_3 t65_c_3)).run Tryd.prog w__10 = .ok () w__11 ∧
        S17_k4 s_ h all_a all_l all_c x now w__11 R B1
      ) ∧
      (
        (
          ∃ (t55_2 : Int),
          (w__9.alloc (.cells ⟨[(.int .i64 t63_0_2), (.int .i64 t63_1_2), (.int .i64 t63_2_2)]⟩ 58)).cell? now = some (.int .i64 t55_2) ∧
          ∃ (t65_a_4 : Option Addr) (t65_l_4 : Nat) (t65_c_4 : Nat) (w__12 : World),
          (Builtin.append_ #[83, 83] 83 ⟨[(.slice t62_a_3 t62_l_3 t62_c_3), (.slice (some ⟨w__9.heap.size, 0, none⟩) 1 1)]⟩).run Tryd.prog (w__9.alloc (.cells ⟨[(.int .i64 t63_0_2), (.int .i64 t63_1_2), (.int .i64 t63_2_2)]⟩ 58)) = .ok (.slice t65_a_4 t65_l_4 t65_c_4) w__12 ∧
          ∃ (w__13 : World),
          (Instr.mapUpdate 73 (.map t53) (.int .i64 t55_2) (.slice t65_a_4 t65_l_4 t65_c_4)).run Tryd.prog w__12 = .ok () w__13 ∧
          S17_k4 s_ h all_a all_l all_c x now w__13 R B1
        ) ∧
        (
          ∃ (t65_a_5 : Option Addr) (t65_l_5 : Nat) (t65_c_5 : Nat) (w__14 : World),
          (Builtin.append_ #[83, 83] 83 ⟨[(.slice t62_a_3 t62_l_3 t62_c_3), (.slice (some ⟨w__9.heap.size, 0, none⟩) 1 1)]⟩).run Tryd.prog (w__9.alloc (.cells ⟨[(.int .i64 t63_0_2), (.int .i64 t63_1_2), (.int .i64 t63_2_2)]⟩ 58)) = .ok (.slice t65_a_5 t65_l_5 t65_c_5) w__14 ∧
          ∃ (t55_3 : Int),
          w__14.cell? now = some (.int .i64 t55_3) ∧
          ∃ (w__15 : World),
          (Instr.mapUpdate 73 (.map t53) (.int .i64 t55_3) (.slice t65_a_5 t65_l_5 t65_c_5)).run Tryd.prog w__14 = .ok () w__15 ∧
          S17_k4 s_ h all_a all_l all_c x now w__15 R B1
        )
      )
    ) ∧
    (
      ∃ (t63_0_3 : Int),
      w.drew.cell? now = some (.int .i64 t63_0_3) ∧
      ∃ (t63_1_3 : Int),
      w.drew.cell? (now.add 1) = some (.int .i64 t63_1_3) ∧
      ∃ (t63_2_3 : Int),
      w.drew.cell? (now.add 2) = some (.int .i64 t63_2_3) ∧
      (
        ∃ (t55_4 : Int),
        w.drew.cell? now = some (.int .i64 t55_4) ∧
        (
          ∃ (t62_a_4 : Option Addr) (t62_l_4 : Nat) (t62_c_4 : Nat) (w__16 : World),
          (Instr.lookup 73 (.map t59) (.int .i64 t61) false).run Tryd.prog w.drew = .ok (.slice t62_a_4 t62_l_4 t62_c_4) w__16 ∧
          ∃ (t65_a_6 : Option Addr) (t65_l_6 : Nat) (t65_c_6 : Nat) (w__17 : World),
          (Builtin.append_ #[83, 83] 83 ⟨[(.slice t62_a_4 t62_l_4 t62_c_4), (.slice (some ⟨w__16.heap.size, 0, none⟩) 1 1)]⟩).run Tryd.prog (w__16.alloc (.cells ⟨[(.int .i64 t63_0_3), (.int .i64 t63_1_3), (.int .i64 t63_2_3)]⟩ 58)) = .ok (.slice t65_a_6 t65_l_6 t65_c_6) w__17 ∧
          ∃ (w__18 : World),
          (Instr.mapUpdate 73 (.map t53) (.int .i64 t55_4) (.slice t65_a_6 t65_l_6 t65_c_6)).run Tryd.prog w__17 = .ok () w__18 ∧
          S17_k4 s_ h all_a all_l all_c x now w__18 R B1
        ) ∧
        (
          ∃ (t62_a_5 : Option Addr) (t62_l_5 : Nat) (t62_c_5 : Nat) (w__19 : World),
          (Instr.lookup 73 (.map t59) (.int .i64 t61) false).run Tryd.prog (w.drew.alloc (.cells ⟨[(.int .i64 t63_0_3), (.int .i64 t63_1_3), (.int .i64 t63_2_3)]⟩ 58)) = .ok (.slice t62_a_5 t62_l_5 t62_c_5) w__19 ∧
          ∃ (t65_a_7 : Option Addr) (t65_l_7 : Nat) (t65_c_7 : Nat) (w__20 : World),
          (Builtin.append_ #[83, 83] 83 ⟨[(.slice t62_a_5 t62_l_5 t62_c_5), (.slice (some ⟨w.drew.heap.size, 0, none⟩) 1 1)]⟩).run Tryd.prog w__19 = .ok (.slice t65_a_7 t65_l_7 t65_c_7) w__20 ∧
          ∃ (w__21 : World),
          (Instr.mapUpdate 73 (.map t53) (.int .i64 t55_4) (.slice t65_a_7 t65_l_7 t65_c_7)).run Tryd.prog w__20 = .ok () w__21 ∧
          S17_k4 s_ h all_a all_l all_c x now w__21 R B1
        )
      ) ∧
      (
        ∃ (t62_a_6 : Option Addr) (t62_l_6 : Nat) (t62_c_6 : Nat) (w__22 : World),
        (Instr.lookup 73 (.map t59) (.int .i64 t61) false).run Tryd.prog w.drew = .ok (.slice t62_a_6 t62_l_6 t62_c_6) w__22 ∧
        (
          ∃ (t55_5 : Int),
          w__22.cell? now = some (.int .i64 t55_5) ∧
          ∃ (t65_a_8 : Option Addr) (t65_l_8 : Nat) (t65_c_8 : Nat) (w__23 : World),
          (Builtin.append_ #[83, 83] 83 ⟨[(.slice t62_a_6 t62_l_6 t62_c_6), (.slice (some ⟨w__22.heap.size, 0, none⟩) 1 1)]⟩).run Tryd.prog (w__22.alloc (.cells ⟨[(.int .i64 t63_0_3), (.int .i64 t63_1_3), (.int .i64 t63_2_3)]⟩ 58)) = .ok (.slice t65_a_8 t65_l_8 t65_c_8) w__23 ∧
          ∃ (w__24 : World),
          (Instr.mapUpdate 73 (.map t53) (.int .i64 t55_5) (.slice t65_a_8 t65_l_8 t65_c_8)).run Tryd.prog w__23 = .ok () w__24 ∧
          S17_k4 s_ h all_a all_l all_c x now w__24 R B1
        ) ∧
        (
          (
            ∃ (t55_6 : Int),
            (w__22.alloc (.cells ⟨[(.int .i64 t63_0_3), (.int .i64 t63_1_3), (.int .i64 t63_2_3)]⟩ 58)).cell? now = some (.int .i64 t55_6) ∧
            ∃ (t65_a_9 : Option Addr) (t65_l_9 : Nat) (t65_c_9 : Nat) (w__25 : World),
            (Builtin.append_ #[83, 83] 83 ⟨[(.slice t62_a_6 t62_l_6 t62_c_6), (.slice (some ⟨w__22.heap.size, 0, none⟩) 1 1)]⟩).run Tryd.prog (w__22.alloc (.cells ⟨[(.int .i64 t63_0_3), (.int .i64 t63_1_3), (.int .i64 t63_2_3)]⟩ 58)) = .ok (.slice t65_a_9 t65_l_9 t65_c_9) w__25 ∧
            ∃ (w__26 : World),
            (Instr.mapUpdate 73 (.map t53) (.int .i64 t55_6) (.slice t65_a_9 t65_l_9 t65_c_9)).run Tryd.prog w__25 = .ok () w__26 ∧
            S17_k4 s_ h all_a all_l all_c x now w__26 R B1
          ) ∧
          (
            ∃ (t65_a_10 : Option Addr) (t65_l_10 : Nat) (t65_c_10 : Nat) (w__27 : World),
            (Builtin.append_ #[83, 83] 83 ⟨[(.slice t62_a_6 t62_l_6 t62_c_6), (.slice (some ⟨w__22.heap.size, 0, none⟩) 1 1)]⟩).run Tryd.prog (w__22.alloc (.cells ⟨[(.int .i64 t63_0_3), (.int .i64 t63_1_3), (.int .i64 t63_2_3)]⟩ 58)) = .ok (.slice t65_a_10 t65_l_10 t65_c_10) w__27 ∧
            ∃ (t55_7 : Int),
            w__27.cell? now = some (.int .i64 t55_7) ∧
            ∃ (w__28 : World),
            (Instr.mapUpdate 73 (.map t53) (.int .i64 t55_7) (.slice t65_a_10 t65_l_10 t65_c_10)).run Tryd.prog w__27 = .ok () w__28 ∧
            S17_k4 s_ h all_a all_l all_c x now w__28 R B1
          )
        )
      ) ∧
      (
        (
          ∃ (t55_8 : Int),
          (w.drew.alloc (.cells ⟨[(.int .i64 t63_0_3), (.int .i64 t63_1_3), (.int .i64 t63_2_3)]⟩ 58)).cell? now = some (.int .i64 t55_8) ∧
          ∃ (t62_a_7 : Option Addr) (t62_l_7 : Nat) (t62_c_7 : Nat) (w__29 : World),
          (Instr.lookup 73 (.map t59) (.int .i64 t61) false).run Tryd.prog (w.drew.alloc (.cells ⟨[(.int .i64 t63_0_3), (.int .i64 t63_1_3), (.int .i64 t63_2_3)]⟩ 58)) = .ok (.slice t62_a_7 t62_l_7 t62_c_7) w__29 ∧
          ∃ (t65_a_11 : Option Addr) (t65_l_11 : Nat) (t65_c_11 : Nat) (w__30 : World),
          (Builtin.append_ #[83, 83] 83 ⟨[(.slice t62_a_7 t62_l_7 t62_c_7), (.slice (some ⟨w.drew.heap.size, 0, none⟩) 1 1)]⟩).run Tryd.prog w__29 = .ok (.slice t65_a_11 t65_l_11 t65_c_11) w__30 ∧
          ∃ (w__31 : World),
          (Instr.mapUpdate 73 (.map t53) (.int .i64 t55_8) (.slice t65_a_11 t65_l_11 t65_c_11)).run Tryd.prog w__30 = .ok () w__31 ∧
          S17_k4 s_ h all_a all_l all_c x now w__31 R B1
        ) ∧
        (
          ∃ (t62_a_8 : Option Addr) (t62_l_8 : Nat) (t62_c_8 : Nat) (w__32 : World),
          (Instr.lookup 73 (.map t59) (.int .i64 t61) false).run Tryd.prog (w.drew.alloc (.cells ⟨[(.int .i64 t63_0_3), (.int .i64 t63_1_3), (.int .i64 t63_2_3)]⟩ 58)) = .ok (.slice t62_a_8 t62_l_8 t62_c_8) w__32 ∧
          (
            ∃ (t55_9 : Int),
            w__32.cell? now = some (.int .i64 t55_9) ∧
            ∃ (t65_a_12 : Option Addr) (t65_l_12 : Nat) (t65_c_12 : Nat) (w__33 : World),
            (Builtin.append_ #[83, 83] 83 ⟨[(.slice t62_a_8 t62_l_8 t62_c_8), (.slice (some ⟨w.drew.heap.size, 0, none⟩) 1 1)]⟩).run Tryd.prog w__32 = .ok (.slice t65_a_12 t65_l_12 t65_c_12) w__33 ∧
            ∃ (w__34 : World),
            (Instr.mapUpdate 73 (.map t53) (.int .i64 t55_9) (.slice t65_a_12 t65_l_12 t65_c_12)).run Tryd.prog w__33 = .ok () w__34 ∧
            S17_k4 s_ h all_a all_l all_c x now w__34 R B1
          ) ∧
          (
            ∃ (t65_a_13 : Option Addr) (t65_l_13 : Nat) (t65_c_13 : Nat) (w__35 : World),
            (Builtin.append_ #[83, 83] 83 ⟨[(.slice t62_a_8 t62_l_8 t62_c_8), (.slice (some ⟨w.drew.heap.size, 0, none⟩) 1 1)]⟩).run Tryd.prog w__32 = .ok (.slice t65_a_13 t65_l_13 t65_c_13) w__35 ∧
            ∃ (t55_10 : Int),
            w__35.cell? now = some (.int .i64 t55_10) ∧
            ∃ (w__36 : World),
            (Instr.mapUpdate 73 (.map t53) (.int .i64 t55_10) (.slice t65_a_13 t65_l_13 t65_c_13)).run Tryd.prog w__35 = .ok () w__36 ∧
            S17_k4 s_ h all_a all_l all_c x now w__36 R B1
          )
        )
      )
    )
  ) ∧
  (
    ∃ (t55_11 : Int),
    w.drew.cell? now = some (.int .i64 t55_11) ∧
    (
      ∃ (t53_1 : Option Nat),
      w.drew.cell? (t51.add 7) = some (.map t53_1) ∧
      (
        ∃ (t62_a_9 : Option Addr) (t62_l_9 : Nat) (t62_c_9 : Nat) (w__37 : World),
        (Instr.lookup 73 (.map t59) (.int .i64 t61) false).run Tryd.prog w.drew = .ok (.slice t62_a_9 t62_l_9 t62_c_9) w__37 ∧
        ∃ (t63_0_4 : Int),
        w__37.cell? now = some (.int .i64 t63_0_4) ∧
        ∃ (t63_1_4 : Int),
        w__37.cell? (now.add 1) = some (.int .i64 t63_1_4) ∧
        ∃ (t63_2_4 : Int),
        w__37.cell? (now.add 2) = some (.int .i64 t63_2_4) ∧
        ∃ (t65_a_14 : Option Addr) (t65_l_14 : Nat) (t65_c_14 : Nat) (w__38 : World),
        (Builtin.append_ #[83, 83] 83 ⟨[(.slice t62_a_9 t62_l_9 t62_c_9), (.slice (some ⟨w__37.heap.size, 0, none⟩) 1 1)]⟩).run Tryd.prog (w__37.alloc (.cells ⟨[(.int .i64 t63_0_4), (.int .i64 t63_1_4), (.int .i64 t63_2_4)]⟩ 58)) = .ok (.slice t65_a_14 t65_l_14 t65_c_14) w__38 ∧
        ∃ (w__39 : World),
        (Instr.mapUpdate 73 (.map t53_1) (.int .i64 t55_11) (.slice t65_a_14 t65_l_14 t65_c_14)).run Tryd.prog w__38 = .ok () w__39 ∧
        S17_k4 s_ h all_a all_l all_c x now w__39 R B1
      ) ∧
      (
        ∃ (t63_0_5 : Int),
        w.drew.cell? now = some (.int .i64 t63_0_5) ∧
        ∃ (t63_1_5 : Int),
        w.drew.cell? (now.add 1) = some (.int .i64 t63_1_5) ∧
        ∃ (t63_2_5 : Int),
        w.drew.cell? (now.add 2) = some (.int .i64 t63_2_5) ∧
        (
          ∃ (t62_a_10 : Option Addr) (t62_l_10 : Nat) (t62_c_10 : Nat) (w__40 : World),
          (Instr.lookup 73 (.map t59) (.int .i64 t61) false).run Tryd.prog w.drew = .ok (.slice t62_a_10 t62_l_10 t62_c_10) w__40 ∧
          ∃ (t65_a_15 : Option Addr) (t65_l_15 : Nat) (t65_c_15 : Nat) (w__41 : World),
          (Builtin.append_ #[83, 83] 83 ⟨[(.slice t62_a_10 t62_l_10 t62_c_10), (.slice (some ⟨w__40.heap.size, 0, none⟩) 1 1)]⟩).run Tryd.prog (w__40.alloc (.cells ⟨[(.int .i64 t63_0_5), (.int .i64 t63_1_5), (.int .i64 t63_2_5)]⟩ 58)) = .ok (.slice t65_a_15 t65_l_15 t65_c_15) w__41 ∧
          ∃ (w__42 : World),
          (Instr.mapUpdate 73 (.map t53_1) (.int .i64 t55_11) (.slice t65_a_15 t65_l_15 t65_c_15)).run Tryd.prog w__41 = .ok () w__42 ∧
          S17_k4 s_ h all_a all_l all_c x now w__42 R B1
        ) ∧
        (
          ∃ (t62_a_11 : Option Addr) (t62_l_11 : Nat) (t62_c_11 : Nat) (w__43 : World),
          (Instr.lookup 73 (.map t59) (.int .i64 t61) false).run Tryd.prog (w.drew.alloc (.cells ⟨[(.int .i64 t63_0_5), (.int .i64 t63_1_5), (.int .i64 t63_2_5)]⟩ 58)) = .ok (.slice t62_a_11 t62_l_11 t62_c_11) w__43 ∧
          ∃ (t65_a_16 : Option Addr) (t65_l_16 : Nat) (t65_c_16 : Nat) (w__44 : World),
          (Builtin.append_ #[83, 83] 83 ⟨[(.slice t62_a_11 t62_l_11 t62_c_11), (.slice (some ⟨w.drew.heap.size, 0, none⟩) 1 1)]⟩).run Tryd.prog w__43 = .ok (.slice t65_a_16 t65_l_16 t65_c_16) w__44 ∧
          ∃ (w__45 : World),
          (Instr.mapUpdate 73 (.map t53_1) (.int .i64 t55_11) (.slice t65_a_16 t65_l_16 t65_c_16)).run Tryd.prog w__44 = .ok () w__45 ∧
          S17_k4 s_ h all_a all_l all_c x now w__45 R B1
        )
      )
    ) ∧
    (
      ∃ (t62_a_12 : Option Addr) (t62_l_12 : Nat) (t62_c_12 : Nat) (w__46 : World),
      (Instr.lookup 73 (.map t59) (.int .i64 t61) false).run Tryd.prog w.drew = .ok (.slice t62_a_12 t62_l_12 t62_c_12) w__46 ∧
      ∃ (t63_0_6 : Int),
      w__46.cell? now = some (.int .i64 t63_0_6) ∧
      ∃ (t63_1_6 : Int),
      w__46.cell? (now.add 1) = some (.int .i64 t63_1_6) ∧
      ∃ (t63_2_6 : Int),
      w__46.cell? (now.add 2) = some (.int .i64 t63_2_6) ∧
      (
        ∃ (t53_2 : Option Nat),
        w__46.cell? (t51.add 7) = some (.map t53_2) ∧
        ∃ (t65_a_17 : Option Addr) (t65_l_17 : Nat) (t65_c_17 : Nat) (w__47 : World),
        (Builtin.append_ #[83, 83] 83 ⟨[(.slice t62_a_12 t62_l_12 t62_c_12), (.slice (some ⟨w__46.heap.size, 0, none⟩) 1 1)]⟩).run Tryd.prog (w__46.alloc (.cells ⟨[(.int .i64 t63_0_6), (.int .i64 t63_1_6), (.int .i64 t63_2_6)]⟩ 58)) = .ok (.slice t65_a_17 t65_l_17 t65_c_17) w__47 ∧
        ∃ (w__48 : World),
        (Instr.mapUpdate 73 (.map t53_2) (.int .i64 t55_11) (.slice t65_a_17 t65_l_17 t65_c_17)).run Tryd.prog w__47 = .ok () w__48 ∧
        S17_k4 s_ h all_a all_l all_c x now w__48 R B1
      ) ∧
      (
        (
          ∃ (t53_3 : Option Nat),
          (w__46.alloc (.cells ⟨[(.int .i64 t63_0_6), (.int .i64 t63_1_6), (.int .i64 t63_2_6)]⟩ 58)).cell? (t51.add 7) = some (.map t53_3) ∧
          ∃ (t65_a_18 : Option Addr) (t65_l_18 : Nat) (t65_c_18 : Nat) (w__49 : World),
          (Builtin.append_ #[83, 83] 83 ⟨[(.slice t62_a_12 t62_l_12 t62_c_12), (.slice (some ⟨w__46.heap.size, 0, none⟩) 1 1)]⟩).run Tryd.prog (w__46.alloc (.cells ⟨[(.int .i64 t63_0_6), (.int .i64 t63_1_6), (.int .i64 t63_2_6)]⟩ 58)) = .ok (.slice t65_a_18 t65_l_18 t65_c_18) w__49 ∧
          ∃ (w__50 : World),
          (Instr.mapUpdate 73 (.map t53_3) (.int .i64 t55_11) (.slice t65_a_18 t65_l_18 t65_c_18)).run Tryd.prog w__49 = .ok () w__50 ∧
          S17_k4 s_ h all_a all_l all_c x now w__50 R B1
        ) ∧
        (
          ∃ (t65_a_19 : Option Addr) (t65_l_19 : Nat) (t65_c_19 : Nat) (w__51 : World),
          (Builtin.append_ #[83, 83] 83 ⟨[(.slice t62_a_12 t62_l_12 t62_c_12), (.slice (some ⟨w__46.heap.size, 0, none⟩) 1 1)]⟩).run Tryd.prog (w__46.alloc (.cells ⟨[(.int .i64 t63_0_6), (.int .i64 t63_1_6), (.int .i64 t63_2_6)]⟩ 58)) = .ok (.slice t65_a_19 t65_l_19 t65_c_19) w__51 ∧
          ∃ (t53_4 : Option Nat),
          w__51.cell? (t51.add 7) = some (.map t53_4) ∧
          ∃ (w__52 : World),
          (Instr.mapUpdate 73 (.map t53_4) (.int .i64 t55_11) (.slice t65_a_19 t65_l_19 t65_c_19)).run Tryd.prog w__51 = .ok () w__52 ∧
          S17_k4 s_ h all_a all_l all_c x now w__52 R B1
        )
      )
    ) ∧
    (
      ∃ (t63_0_7 : Int),
      w.drew.cell? now = some (.int .i64 t63_0_7) ∧
      ∃ (t63_1_7 : Int),
      w.drew.cell? (now.add 1) = some (.int .i64 t63_1_7) ∧
      ∃ (t63_2_7 : Int),
      w.drew.cell? (now.add 2) = some (.int .i64 t63_2_7) ∧
      (
        ∃ (t53_5 : Option Nat),
        w.drew.cell? (t51.add 7) = some (.map t53_5) ∧
        (
          ∃ (t62_a_13 : Option Addr) (t62_l_13 : Nat) (t62_c_13 : Nat) (w__53 : World),
          (Instr.lookup 73 (.map t59) (.int .i64 t61) false).run Tryd.prog w.drew = .ok (.slice t62_a_13 t62_l_13 t62_c_13) w__53 ∧
          ∃ (t65_a_20 : Option Addr) (t65_l_20 : Nat) (t65_c_20 : Nat) (w__54 : World),
          (Builtin.append_ #[83, 83] 83 ⟨[(.slice t62_a_13 t62_l_13 t62_c_13), (.slice (some ⟨w__53.heap.size, 0, none⟩) 1 1)]⟩).run Tryd.prog (w__53.alloc (.cells ⟨[(.int .i64 t63_0_7), (.int .i64 t63_1_7), (.int .i64 t63_2_7)]⟩ 58)) = .ok (.slice t65_a_20 t65_l_20 t65_c_20) w__54 ∧
          ∃ (w__55 : World),
          (Instr.mapUpdate 73 (.map t53_5) (.int .i64 t55_11) (.slice t65_a_20 t65_l_20 t65_c_20)).run Tryd.prog w__54 = .ok () w__55 ∧
          S17_k4 s_ h all_a all_l all_c x now w__55 R B1
        ) ∧
        (
          ∃ (t62_a_14 : Option Addr) (t62_l_14 : Nat) (t62_c_14 : Nat) (w__56 : World),
          (Instr.lookup 73 (.map t59) (.int .i64 t61) false).run Tryd.prog (w.drew.alloc (.cells ⟨[(.int .i64 t63_0_7), (.int .i64 t63_1_7), (.int .i64 t63_2_7)]⟩ 58)) = .ok (.slice t62_a_14 t62_l_14 t62_c_14) w__56 ∧
          ∃ (t65_a_21 : Option Addr) (t65_l_21 : Nat) (t65_c_21 : Nat) (w__57 : World),
          (Builtin.append_ #[83, 83] 83 ⟨[(.slice t62_a_14 t62_l_14 t62_c_14), (.slice (some ⟨w.drew.heap.size, 0, none⟩) 1 1)]⟩).run Tryd.prog w__56 = .ok (.slice t65_a_21 t65_l_21 t65_c_21) w__57 ∧
          ∃ (w__58 : World),
          (Instr.mapUpdate 73 (.map t53_5) (.int .i64 t55_11) (.slice t65_a_21 t65_l_21 t65_c_21)).run Tryd.prog w__57 = .ok () w__58 ∧
          S17_k4 s_ h all_a all_l all_c x now w__58 R B1
        )
      ) ∧
      (
        ∃ (t62_a_15 : Option Addr) (t62_l_15 : Nat) (t62_c_15 : Nat) (w__59 : World),
        (Instr.lookup 73 (.map t59) (.int .i64 t61) false).run Tryd.prog w.drew = .ok (.slice t62_a_15 t62_l_15 t62_c_15) w__59 ∧
        (
          ∃ (t53_6 : Option Nat),
          w__59.cell? (t51.add 7) = some (.map t53_6) ∧
          ∃ (t65_a_22 : Option Addr) (t65_l_22 : Nat) (t65_c_22 : Nat) (w__60 : World),
          (Builtin.append_ #[83, 83] 83 ⟨[(.slice t62_a_15 t62_l_15 t62_c_15), (.slice (some ⟨w__59.heap.size, 0, none⟩) 1 1)]⟩).run Tryd.prog (w__59.alloc (.cells ⟨[(.int .i64 t63_0_7), (.int .i64 t63_1_7), (.int .i64 t63_2_7)]⟩ 58)) = .ok (.slice t65_a_22 t65_l_22 t65_c_22) w__60 ∧
          ∃ (w__61 : World),
          (Instr.mapUpdate 73 (.map t53_6) (.int .i64 t55_11) (.slice t65_a_22 t65_l_22 t65_c_22)).run Tryd.prog w__60 = .ok () w__61 ∧
          S17_k4 s_ h all_a all_l all_c x now w__61 R B1
        ) ∧
        (
          (
            ∃ (t53_7 : Option Nat),
            (w__59.alloc (.cells ⟨[(.int .i64 t63_0_7), (.int .i64 t63_1_7), (.int .i64 t63_2_7)]⟩ 58)).cell? (t51.add 7) = some (.map t53_7) ∧
            ∃ (t65_a_23 : Option Addr) (t65_l_23 : Nat) (t65_c_23 : Nat) (w__62 : World),
            (Builtin.append_ #[83, 83] 83 ⟨[(.slice t62_a_15 t62_l_15 t62_c_15), (.slice (some ⟨w__59.heap.size, 0, none⟩) 1 1)]⟩).run Tryd.prog (w__59.alloc (.cells ⟨[(.int .i64 t63_0_7), (.int .i64 t63_1_7), (.int .i64 t63_2_7)]⟩ 58)) = .ok (.slice t65_a_23 t65_l_23 t65_c_23) w__62 ∧
            ∃ (w__63 : World),
            (Instr.mapUpdate 73 (.map t53_7) (.int .i64 t55_11) (.slice t65_a_23 t65_l_23 t65_c_23)).run Tryd.prog w__62 = .ok () w__63 ∧
            S17_k4 s_ h all_a all_l all_c x now w__63 R B1
          ) ∧
          (
            ∃ (t65_a_24 : Option Addr) (t65_l_24 : Nat) (t65_c_24 : Nat) (w__64 : World),
            (Builtin.append_ #[83, 83] 83 ⟨[(.slice t62_a_15 t62_l_15 t62_c_15), (.slice (some ⟨w__59.heap.size, 0, none⟩) 1 1)]⟩).run Tryd.prog (w__59.alloc (.cells ⟨[(.int .i64 t63_0_7), (.int .i64 t63_1_7), (.int .i64 t63_2_7)]⟩ 58)) = .ok (.slice t65_a_24 t65_l_24 t65_c_24) w__64 ∧
            ∃ (t53_8 : Option Nat),
            w__64.cell? (t51.add 7) = some (.map t53_8) ∧
            ∃ (w__65 : World),
            (Instr.mapUpdate 73 (.map t53_8) (.int .i64 t55_11) (.slice t65_a_24 t65_l_24 t65_c_24)).run Tryd.prog w__64 = .ok () w__65 ∧
            S17_k4 s_ h all_a all_l all_c x now w__65 R B1
          )
        )
      ) ∧
      (
        (
          ∃ (t53_9 : Option Nat),
          (w.drew.alloc (.cells ⟨[(.int .i64 t63_0_7), (.int .i64 t63_1_7), (.int .i64 t63_2_7)]⟩ 58)).cell? (t51.add 7) = some (.map t53_9) ∧
          ∃ (t62_a_16 : Option Addr) (t62_l_16 : Nat) (t62_c_16 : Nat) (w__66 : World),
          (Instr.lookup 73 (.map t59) (.int .i64 t61) false).run Tryd.prog (w.drew.alloc (.cells ⟨[(.int .i64 t63_0_7), (.int .i64 t63_1_7), (.int .i64 t63_2_7)]⟩ 58)) = .ok (.slice t62_a_16 t62_l_16 t62_c_16) w__66 ∧
          ∃ (t65_a_25 : Option Addr) (t65_l_25 : Nat) (t65_c_25 : Nat) (w__67 : World),
          (Builtin.append_ #[83, 83] 83 ⟨[(.slice t62_a_16 t62_l_16 t62_c_16), (.slice (some ⟨w.drew.heap.size, 0, none⟩) 1 1)]⟩).run Tryd.prog w__66 = .ok (.slice t65_a_25 t65_l_25 t65_c_25) w__67 ∧
          ∃ (w__68 : World),
          (Instr.mapUpdate 73 (.map t53_9) (.int .i64 t55_11) (.slice t65_a_25 t65_l_25 t65_c_25)).run Tryd.prog w__67 = .ok () w__68 ∧
          S17_k4 s_ h all_a all_l all_c x now w__68 R B1
        ) ∧
        (
          ∃ (t62_a_17 : Option Addr) (t62_l_17 : Nat) (t62_c_17 : Nat) (w__69 : World),
          (Instr.lookup 73 (.map t59) (.int .i64 t61) false).run Tryd.prog (w.drew.alloc (.cells ⟨[(.int .i64 t63_0_7), (.int .i64 t63_1_7), (.int .i64 t63_2_7)]⟩ 58)) = .ok (.slice t62_a_17 t62_l_17 t62_c_17) w__69 ∧
          (
            ∃ (t53_10 : Option Nat),
            w__69.cell? (t51.add 7) = some (.map t53_10) ∧
            ∃ (t65_a_26 : Option Addr) (t65_l_26 : Nat) (t65_c_26 : Nat) (w__70 : World),
            (Builtin.append_ #[83, 83] 83 ⟨[(.slice t62_a_17 t62_l_17 t62_c_17), (.slice (some ⟨w.drew.heap.size, 0, none⟩) 1 1)]⟩).run Tryd.prog w__69 = .ok (.slice t65_a_26 t65_l_26 t65_c_26) w__70 ∧
            ∃ (w__71 : World),
            (Instr.mapUpdate 73 (.map t53_10) (.int .i64 t55_11) (.slice t65_a_26 t65_l_26 t65_c_26)).run Tryd.prog w__70 = .ok () w__71 ∧
            S17_k4 s_ h all_a all_l all_c x now w__71 R B1
          ) ∧
          (
            ∃ (t65_a_27 : Option Addr) (t65_l_27 : Nat) (t65_c_27 : Nat) (w__72 : World),
            (Builtin.append_ #[83, 83] 83 ⟨[(.slice t62_a_17 t62_l_17 t62_c_17), (.slice (some ⟨w.drew.heap.size, 0, none⟩) 1 1)]⟩).run Tryd.prog w__69 = .ok (.slice t65_a_27 t65_l_27 t65_c_27) w__72 ∧
            ∃ (t53_11 : Option Nat),
            w__72.cell? (t51.add 7) = some (.map t53_11) ∧
            ∃ (w__73 : World),
            (Instr.mapUpdate 73 (.map t53_11) (.int .i64 t55_11) (.slice t65_a_27 t65_l_27 t65_c_27)).run Tryd.prog w__72 = .ok () w__73 ∧
            S17_k4 s_ h all_a all_l all_c x now w__73 R B1
          )
        )
      )
    )
  ) ∧
  (
    ∃ (t62_a_18 : Option Addr) (t62_l_18 : Nat) (t62_c_18 : Nat) (w__74 : World),
    (Instr.lookup 73 (.map t59) (.int .i64 t61) false).run Tryd.prog w.drew = .ok (.slice t62_a_18 t62_l_18 t62_c_18) w__74 ∧
    ∃ (t63_0_8 : Int),
    w__74.cell? now = some (.int .i64 t63_0_8) ∧
    ∃ (t63_1_8 : Int),
    w__74.cell? (now.add 1) = some (.int .i64 t63_1_8) ∧
    ∃ (t63_2_8 : Int),
    w__74.cell? (now.add 2) = some (.int .i64 t63_2_8) ∧
    (
      ∃ (t53_12 : Option Nat),
      w__74.cell? (t51.add 7) = some (.map t53_12) ∧
      (
        ∃ (t55_12 : Int),
        w__74.cell? now = some (.int .i64 t55_12) ∧
        ∃ (t65_a_28 : Option Addr) (t65_l_28 : Nat) (t65_c_28 : Nat) (w__75 : World),
        (Builtin.append_ #[83, 83] 83 ⟨[(.slice t62_a_18 t62_l_18 t62_c_18), (.slice (some ⟨w__74.heap.size, 0, none⟩) 1 1)]⟩).run Tryd.prog (w__74.alloc (.cells ⟨[(.int .i64 t63_0_8), (.int .i64 t63_1_8), (.int .i64 t63_2_8)]⟩ 58)) = .ok (.slice t65_a_28 t65_l_28 t65_c_28) w__75 ∧
        ∃ (w__76 : World),
        (Instr.mapUpdate 73 (.map t53_12) (.int .i64 t55_12) (.slice t65_a_28 t65_l_28 t65_c_28)).run Tryd.prog w__75 = .ok () w__76 ∧
        S17_k4 s_ h all_a all_l all_c x now w__76 R B1
      ) ∧
      (
        (
          ∃ (t55_13 : Int),
          (w__74.alloc (.cells ⟨[(.int .i64 t63_0_8), (.int .i64 t63_1_8), (.int .i64 t63_2_8)]⟩ 58)).cell? now = some (.int .i64 t55_13) ∧
          ∃ (t65_a_29 : Option Addr) (t65_l_29 : Nat) (t65_c_29 : Nat) (w__77 : World),
          (Builtin.append_ #[83, 83] 83 ⟨[(.slice t62_a_18 t62_l_18 t62_c_18), (.slice (some ⟨w__74.heap.size, 0, none⟩) 1 1)]⟩).run Tryd.prog (w__74.alloc (.cells ⟨[(.int .i64 t63_0_8), (.int .i64 t63_1_8), (.int .i64 t63_2_8)]⟩ 58)) = .ok (.slice t65_a_29 t65_l_29 t65_c_29) w__77 ∧
          ∃ (w__78 : World),
          (Instr.mapUpdate 73 (.map t53_12) (.int .i64 t55_13) (.slice t65_a_29 t65_l_29 t65_c_29)).run Tryd.prog w__77 = .ok () w__78 ∧
          S17_k4 s_ h all_a all_l all_c x now w__78 R B1
        ) ∧
        (
          ∃ (t65_a_30 : Option Addr) (t65_l_30 : Nat) (t65_c_30 : Nat) (w__79 : World),
          (Builtin.append_ #[83, 83] 83 ⟨[(.slice t62_a_18 t62_l_18 t62_c_18), (.slice (some ⟨w__74.heap.size, 0, none⟩) 1 1)]⟩).run Tryd.prog (w__74.alloc (.cells ⟨[(.int .i64 t63_0_8), (.int .i64 t63_1_8), (.int .i64 t63_2_8)]⟩ 58)) = .ok (.slice t65_a_30 t65_l_30 t65_c_30) w__79 ∧
          ∃ (t55_14 : Int),
          w__79.cell? now = some (.int .i64 t55_14) ∧
          ∃ (w__80 : World),
          (Instr.mapUpdate 73 (.map t53_12) (.int .i64 t55_14) (.slice t65_a_30 t65_l_30 t65_c_30)).run Tryd.prog w__79 = .ok () w__80 ∧
          S17_k4 s_ h all_a all_l all_c x now w__80 R B1
        )
      )
    ) ∧
    (
      ∃ (t55_15 : Int),
      w__74.cell? now = some (.int .i64 t55_15) ∧
      (
        ∃ (t53_13 : Option Nat),
        w__74.cell? (t51.add 7) = some (.map t53_13) ∧
        ∃ (t65_a_31 : Option Addr) (t65_l_31 : Nat) (t65_c_31 : Nat) (w__81 : World),
        (Builtin.append_ #[83, 83] 83 ⟨[(.slice t62_a_18 t62_l_18 t62_c_18), (.slice (some ⟨w__74.heap.size, 0, none⟩) 1 1)]⟩).run Tryd.prog (w__74.alloc (.cells ⟨[(.int .i64 t63_0_8), (.int .i64 t63_1_8), (.int .i64 t63_2_8)]⟩ 58)) = .ok (.slice t65_a_31 t65_l_31 t65_c_31) w__81 ∧
        ∃ (w__82 : World),
        (Instr.mapUpdate 73 (.map t53_13) (.int .i64 t55_15) (.slice t65_a_31 t65_l_31 t65_c_31)).run Tryd.prog w__81 = .ok () w__82 ∧
        S17_k4 s_ h all_a all_l all_c x now w__82 R B1
      ) ∧
      (
        (
          ∃ (t53_14 : Option Nat),
          (w__74.alloc (.cells ⟨[(.int .i64 t63_0_8), (.int .i64 t63_1_8), (.int .i64 t63_2_8)]⟩ 58)).cell? (t51.add 7) = some (.map t53_14) ∧
          ∃ (t65_a_32 : Option Addr) (t65_l_32 : Nat) (t65_c_32 : Nat) (w__83 : World),
          (Builtin.append_ #[83, 83] 83 ⟨[(.slice t62_a_18 t62_l_18 t62_c_18), (.slice (some ⟨w__74.heap.size, 0, none⟩) 1 1)]⟩).run Tryd.prog (w__74.alloc (.cells ⟨[(.int .i64 t63_0_8), (.int .i64 t63_1_8), (.int .i64 t63_2_8)]⟩ 58)) = .ok (.slice t65_a_32 t65_l_32 t65_c_32) w__83 ∧
          ∃ (w__84 : World),
          (Instr.mapUpdate 73 (.map t53_14) (.int .i64 t55_15) (.slice t65_a_32 t65_l_32 t65_c_32)).run Tryd.prog w__83 = .ok () w__84 ∧
          S17_k4 s_ h all_a all_l all_c x now w__84 R B1
        ) ∧
        (
          ∃ (t65_a_33 : Option Addr) (t65_l_33 : Nat) (t65_c_33 : Nat) (w__85 : World),
          (Builtin.append_ #[83, 83] 83 ⟨[(.slice t62_a_18 t62_l_18 t62_c_18), (.slice (some ⟨w__74.heap.size, 0, none⟩) 1 1)]⟩).run Tryd.prog (w__74.alloc (.cells ⟨[(.int .i64 t63_0_8), (.int .i64 t63_1_8), (.int .i64 t63_2_8)]⟩ 58)) = .ok (.slice t65_a_33 t65_l_33 t65_c_33) w__85 ∧
          ∃ (t53_15 : Option Nat),
          w__85.cell? (t51.add 7) = some (.map t53_15) ∧
          ∃ (w__86 : World),
          (Instr.mapUpdate 73 (.map t53_15) (.int .i64 t55_15) (.slice t65_a_33 t65_l_33 t65_c_33)).run Tryd.prog w__85 = .ok () w__86 ∧
          S17_k4 s_ h all_a all_l all_c x now w__86 R B1
        )
      )
    ) ∧
    (
      (
        ∃ (t53_16 : Option Nat),
        (w__74.alloc (.cells ⟨[(.int .i64 t63_0_8), (.int .i64 t63_1_8), (.int .i64 t63_2_8)]⟩ 58)).cell? (t51.add 7) = some (.map t53_16) ∧
        (
          ∃ (t55_16 : Int),
          (w__74.alloc (.cells ⟨[(.int .i64 t63_0_8), (.int .i64 t63_1_8), (.int .i64 t63_2_8)]⟩ 58)).cell? now = some (.int .i64 t55_16) ∧
          ∃ (t65_a_34 : Option Addr) (t65_l_34 : Nat) (t65_c_34 : Nat) (w__87 : World),
          (Builtin.append_ #[83, 83] 83 ⟨[(.slice t62_a_18 t62_l_18 t62_c_18), (.slice (some ⟨w__74.heap.size, 0, none⟩) 1 1)]⟩).run Tryd.prog (w__74.alloc (.cells ⟨[(.int .i64 t63_0_8), (.int .i64 t63_1_8), (.int .i64 t63_2_8)]⟩ 58)) = .ok (.slice t65_a_34 t65_l_34 t65_c_34) w__87 ∧
          ∃ (w__88 : World),
          (Instr.mapUpdate 73 (.map t53_16) (.int .i64 t55_16) (.slice t65_a_34 t65_l_34 t65_c_34)).run Tryd.prog w__87 = .ok () w__88 ∧
          S17_k4 s_ h all_a all_l all_c x now w__88 R B1
        ) ∧
        (
          ∃ (t65_a_35 : Option Addr) (t65_l_35 : Nat) (t65_c_35 : Nat) (w__89 : World),
          (Builtin.append_ #[83, 83] 83 ⟨[(.slice t62_a_18 t62_l_18 t62_c_18), (.slice (some ⟨w__74.heap.size, 0, none⟩) 1 1)]⟩).run Tryd.prog (w__74.alloc (.cells ⟨[(.int .i64 t63_0_8), (.int .i64 t63_1_8), (.int .i64 t63_2_8)]⟩ 58)) = .ok (.slice t65_a_35 t65_l_35 t65_c_35) w__89 ∧
          ∃ (t55_17 : Int),
          w__89.cell? now = some (.int .i64 t55_17) ∧
          ∃ (w__90 : World),
          (Instr.mapUpdate 73 (.map t53_16) (.int .i64 t55_17) (.slice t65_a_35 t65_l_35 t65_c_35)).run Tryd.prog w__89 = .ok () w__90 ∧
          S17_k4 s_ h all_a all_l all_c x now w__90 R B1
        )
      ) ∧
      (
        ∃ (t55_18 : Int),
        (w__74.alloc (.cells ⟨[(.int .i64 t63_0_8), (.int .i64 t63_1_8), (.int .i64 t63_2_8)]⟩ 58)).cell? now = some (.int .i64 t55_18) ∧
        (
          ∃ (t53_17 : Option Nat),
          (w__74.alloc (.cells ⟨[(.int .i64 t63_0_8), (.int .i64 t63_1_8), (.int .i64 t63_2_8)]⟩ 58)).cell? (t51.add 7) = some (.map t53_17) ∧
          ∃ (t65_a_36 : Option Addr) (t65_l_36 : Nat) (t65_c_36 : Nat) (w__91 : World),
          (Builtin.append_ #[83, 83] 83 ⟨[(.slice t62_a_18 t62_l_18 t62_c_18), (.slice (some ⟨w__74.heap.size, 0, none⟩) 1 1)]⟩).run Tryd.prog (w__74.alloc (.cells ⟨[(.int .i64 t63_0_8), (.int .i64 t63_1_8), (.int .i64 t63_2_8)]⟩ 58)) = .ok (.slice t65_a_36 t65_l_36 t65_c_36) w__91 ∧
          ∃ (w__92 : World),
          (Instr.mapUpdate 73 (.map t53_17) (.int .i64 t55_18) (.slice t65_a_36 t65_l_36 t65_c_36)).run Tryd.prog w__91 = .ok () w__92 ∧
          S17_k4 s_ h all_a all_l all_c x now w__92 R B1
        ) ∧
        (
          ∃ (t65_a_37 : Option Addr) (t65_l_37 : Nat) (t65_c_37 : Nat) (w__93 : World),
          (Builtin.append_ #[83, 83] 83 ⟨[(.slice t62_a_18 t62_l_18 t62_c_18), (.slice (some ⟨w__74.heap.size, 0, none⟩) 1 1)]⟩).run Tryd.prog (w__74.alloc (.cells ⟨[(.int .i64 t63_0_8), (.int .i64 t63_1_8), (.int .i64 t63_2_8)]⟩ 58)) = .ok (.slice t65_a_37 t65_l_37 t65_c_37) w__93 ∧
          ∃ (t53_18 : Option Nat),
          w__93.cell? (t51.add 7) = some (.map t53_18) ∧
          ∃ (w__94 : World),
          (Instr.mapUpdate 73 (.map t53_18) (.int .i64 t55_18) (.slice t65_a_37 t65_l_37 t65_c_37)).run Tryd.prog w__93 = .ok () w__94 ∧
          S17_k4 s_ h all_a all_l all_c x now w__94 R B1
        )
      ) ∧
      (
        ∃ (t65_a_38 : Option Addr) (t65_l_38 : Nat) (t65_c_38 : Nat) (w__95 : World),
        (Builtin.append_ #[83, 83] 83 ⟨[(.slice t62_a_18 t62_l_18 t62_c_18), (.slice (some ⟨w__74.heap.size, 0, none⟩) 1 1)]⟩).run Tryd.prog (w__74.alloc (.cells ⟨[(.int .i64 t63_0_8), (.int .i64 t63_1_8), (.int .i64 t63_2_8)]⟩ 58)) = .ok (.slice t65_a_38 t65_l_38 t65_c_38) w__95 ∧
        ∃ (t53_19 : Option Nat),
        w__95.cell? (t51.add 7) = some (.map t53_19) ∧
        ∃ (t55_19 : Int),
        w__95.cell? now = some (.int .i64 t55_19) ∧
        ∃ (w__96 : World),
        (Instr.mapUpdate 73 (.map t53_19) (.int .i64 t55_19) (.slice t65_a_38 t65_l_38 t65_c_38)).run Tryd.prog w__95 = .ok () w__96 ∧
        S17_k4 s_ h all_a all_l all_c x now w__96 R B1
      )
    )
  ) ∧
  (
    ∃ (t63_0_9 : Int),
    w.drew.cell? now = some (.int .i64 t63_0_9) ∧
    ∃ (t63_1_9 : Int),
    w.drew.cell? (now.add 1) = some (.int .i64 t63_1_9) ∧
    ∃ (t63_2_9 : Int),
    w.drew.cell? (now.add 2) = some (.int .i64 t63_2_9) ∧
    (
      ∃ (t53_20 : Option Nat),
      w.drew.cell? (t51.add 7) = some (.map t53_20) ∧
      (
        ∃ (t55_20 : Int),
        w.drew.cell? now = some (.int .i64 t55_20) ∧
        (
          ∃ (t62_a_19 : Option Addr) (t62_l_19 : Nat) (t62_c_19 : Nat) (w__97 : World),
          (Instr.lookup 73 (.map t59) (.int .i64 t61) false).run Tryd.prog w.drew = .ok (.slice t62_a_19 t62_l_19 t62_c_19) w__97 ∧
          ∃ (t65_a_39 : Option Addr) (t65_l_39 : Nat) (t65_c_39 : Nat) (w__98 : World),
          (Builtin.append_ #[83, 83] 83 ⟨[(.slice t62_a_19 t62_l_19 t62_c_19), (.slice (some ⟨w__97.heap.size, 0, none⟩) 1 1)]⟩).run Tryd.prog (w__97.alloc (.cells ⟨[(.int .i64 t63_0_9), (.int .i64 t63_1_9), (.int .i64 t63_2_9)]⟩ 58)) = .ok (.slice t65_a_39 t65_l_39 t65_c_39) w__98 ∧
          ∃ (w__99 : World),
          (Instr.mapUpdate 73 (.map t53_20) (.int .i64 t55_20) (.slice t65_a_39 t65_l_39 t65_c_39)).run Tryd.prog w__98 = .ok () w__99 ∧
          S17_k4 s_ h all_a all_l all_c x now w__99 R B1
        ) ∧
        (
          ∃ (t62_a_20 : Option Addr) (t62_l_20 : Nat) (t62_c_20 : Nat) (w__100 : World),
          (Instr.lookup 73 (.map t59) (.int .i64 t61) false).run Tryd.prog (w.drew.alloc (.cells ⟨[(.int .i64 t63_0_9), (.int .i64 t63_1_9), (.int .i64 t63_2_9)]⟩ 58)) = .ok (.slice t62_a_20 t62_l_20 t62_c_20) w__100 ∧
          ∃ (t65_a_40 : Option Addr) (t65_l_40 : Nat) (t65_c_40 : Nat) (w__101 : World),
          (Builtin.append_ #[83, 83] 83 ⟨[(.slice t62_a_20 t62_l_20 t62_c_20), (.slice (some ⟨w.drew.heap.size, 0, none⟩) 1 1)]⟩).run Tryd.prog w__100 = .ok (.slice t65_a_40 t65_l_40 t65_c_40) w__101 ∧
          ∃ (w__102 : World),
          (Instr.mapUpdate 73 (.map t53_20) (.int .i64 t55_20) (.slice t65_a_40 t65_l_40 t65_c_40)).run Tryd.prog w__101 = .ok () w__102 ∧
          S17_k4 s_ h all_a all_l all_c x now w__102 R B1
        )
      ) ∧
      (
        ∃ (t62_a_21 : Option Addr) (t62_l_21 : Nat) (t62_c_21 : Nat) (w__103 : World),
        (Instr.lookup 73 (.map t59) (.int .i64 t61) false).run Tryd.prog w.drew = .ok (.slice t62_a_21 t62_l_21 t62_c_21) w__103 ∧
        (
          ∃ (t55_21 : Int),
          w__103.cell? now = some (.int .i64 t55_21) ∧
          ∃ (t65_a_41 : Option Addr) (t65_l_41 : Nat) (t65_c_41 : Nat) (w__104 : World),
          (Builtin.append_ #[83, 83] 83 ⟨[(.slice t62_a_21 t62_l_21 t62_c_21), (.slice (some ⟨w__103.heap.size, 0, none⟩) 1 1)]⟩).run Tryd.prog (w__103.alloc (.cells ⟨[(.int .i64 t63_0_9), (.int .i64 t63_1_9), (.int .i64 t63_2_9)]⟩ 58)) = .ok (.slice t65_a_41 t65_l_41 t65_c_41) w__104 ∧
          ∃ (w__105 : World),
          (Instr.mapUpdate 73 (.map t53_20) (.int .i64 t55_21) (.slice t65_a_41 t65_l_41 t65_c_41)).run Tryd.prog w__104 = .ok () w__105 ∧
          S17_k4 s_ h all_a all_l all_c x now w__105 R B1
        ) ∧
        (
          (
            ∃ (t55_22 : Int),
            (w__103.alloc (.cells ⟨[(.int .i64 t63_0_9), (.int .i64 t63_1_9), (.int .i64 t63_2_9)]⟩ 58)).cell? now = some (.int .i64 t55_22) ∧
            ∃ (t65_a_42 : Option Addr) (t65_l_42 : Nat) (t65_c_42 : Nat) (w__106 : World),
            (Builtin.append_ #[83, 83] 83 ⟨[(.slice t62_a_21 t62_l_21 t62_c_21), (.slice (some ⟨w__103.heap.size, 0, none⟩) 1 1)]⟩).run Tryd.prog (w__103.alloc (.cells ⟨[(.int .i64 t63_0_9), (.int .i64 t63_1_9), (.int .i64 t63_2_9)]⟩ 58)) = .ok (.slice t65_a_42 t65_l_42 t65_c_42) w__106 ∧
            ∃ (w__107 : World),
            (Instr.mapUpdate 73 (.map t53_20) (.int .i64 t55_22) (.slice t65_a_42 t65_l_42 t65_c_42)).run Tryd.prog w__106 = .ok () w__107 ∧
            S17_k4 s_ h all_a all_l all_c x now w__107 R B1
          ) ∧
          (
            ∃ (t65_a_43 : Option Addr) (t65_l_43 : Nat) (t65_c_43 : Nat) (w__108 : World),
            (Builtin.append_ #[83, 83] 83 ⟨[(.slice t62_a_21 t62_l_21 t62_c_21), (.slice (some ⟨w__103.heap.size, 0, none⟩) 1 1)]⟩).run Tryd.prog (w__103.alloc (.cells ⟨[(.int .i64 t63_0_9), (.int .i64 t63_1_9), (.int .i64 t63_2_9)]⟩ 58)) = .ok (.slice t65_a_43 t65_l_43 t65_c_43) w__108 ∧
            ∃ (t55_23 : Int),
            w__108.cell? now = some (.int .i64 t55_23) ∧
            ∃ (w__109 : World),
            (Instr.mapUpdate 73 (.map t53_20) (.int .i64 t55_23) (.slice t65_a_43 t65_l_43 t65_c_43)).run Tryd.prog w__108 = .ok () w__109 ∧
            S17_k4 s_ h all_a all_l all_c x now w__109 R B1
          )
        )
      ) ∧
      (
        (
          ∃ (t55_24 : Int),
          (w.drew.alloc (.cells ⟨[(.int .i64 t63_0_9), (.int .i64 t63_1_9), (.int .i64 t63_2_9)]⟩ 58)).cell? now = some (.int .i64 t55_24) ∧
          ∃ (t62_a_22 : Option Addr) (t62_l_22 : Nat) (t62_c_22 : Nat) (w__110 : World),
          (Instr.lookup 73 (.map t59) (.int .i64 t61) false).run Tryd.prog (w.drew.alloc (.cells ⟨[(.int .i64 t63_0_9), (.int .i64 t63_1_9), (.int .i64 t63_2_9)]⟩ 58)) = .ok (.slice t62_a_22 t62_l_22 t62_c_22) w__110 ∧
          ∃ (t65_a_44 : Option Addr) (t65_l_44 : Nat) (t65_c_44 : Nat) (w__111 : World),
          (Builtin.append_ #[83, 83] 83 ⟨[(.slice t62_a_22 t62_l_22 t62_c_22), (.slice (some ⟨w.drew.heap.size, 0, none⟩) 1 1)]⟩).run Tryd.prog w__110 = .ok (.slice t65_a_44 t65_l_44 t65_c_44) w__111 ∧
          ∃ (w__112 : World),
          (Instr.mapUpdate 73 (.map t53_20) (.int .i64 t55_24) (.slice t65_a_44 t65_l_44 t65_c_44)).run Tryd.prog w__111 = .ok () w__112 ∧
          S17_k4 s_ h all_a all_l all_c x now w__112 R B1
        ) ∧
        (
          ∃ (t62_a_23 : Option Addr) (t62_l_23 : Nat) (t62_c_23 : Nat) (w__113 : World),
          (Instr.lookup 73 (.map t59) (.int .i64 t61) false).run Tryd.prog (w.drew.alloc (.cells ⟨[(.int .i64 t63_0_9), (.int .i64 t63_1_9), (.int .i64 t63_2_9)]⟩ 58)) = .ok (.slice t62_a_23 t62_l_23 t62_c_23) w__113 ∧
          (
            ∃ (t55_25 : Int),
            w__113.cell? now = some (.int .i64 t55_25) ∧
            ∃ (t65_a_45 : Option Addr) (t65_l_45 : Nat) (t65_c_45 : Nat) (w__114 : World),
            (Builtin.append_ #[83, 83] 83 ⟨[(.slice t62_a_23 t62_l_23 t62_c_23), (.slice (some ⟨w.drew.heap.size, 0, none⟩) 1 1)]⟩).run Tryd.prog w__113 = .ok (.slice t65_a_45 t65_l_45 t65_c_45) w__114 ∧
            ∃ (w__115 : World),
            (Instr.mapUpdate 73 (.map t53_20) (.int .i64 t55_25) (.slice t65_a_45 t65_l_45 t65_c_45)).run Tryd.prog w__114 = .ok () w__115 ∧
            S17_k4 s_ h all_a all_l all_c x now w__115 R B1
          ) ∧
          (
            ∃ (t65_a_46 : Option Addr) (t65_l_46 : Nat) (t65_c_46 : Nat) (w__116 : World),
            (Builtin.append_ #[83, 83] 83 ⟨[(.slice t62_a_23 t62_l_23 t62_c_23), (.slice (some ⟨w.drew.heap.size, 0, none⟩) 1 1)]⟩).run Tryd.prog w__113 = .ok (.slice t65_a_46 t65_l_46 t65_c_46) w__116 ∧
            ∃ (t55_26 : Int),
            w__116.cell? now = some (.int .i64 t55_26) ∧
            ∃ (w__117 : World),
            (Instr.mapUpdate 73 (.map t53_20) (.int .i64 t55_26) (.slice t65_a_46 t65_l_46 t65_c_46)).run Tryd.prog w__116 = .ok () w__117 ∧
            S17_k4 s_ h all_a all_l all_c x now w__117 R B1
          )
        )
      )
    ) ∧
    (
      ∃ (t55_27 : Int),
      w.drew.cell? now = some (.int .i64 t55_27) ∧
      (
        ∃ (t53_21 : Option Nat),
        w.drew.cell? (t51.add 7) = some (.map t53_21) ∧
        (
          ∃ (t62_a_24 : Option Addr) (t62_l_24 : Nat) (t62_c_24 : Nat) (w__118 : World),
          (Instr.lookup 73 (.map t59) (.int .i64 t61) false).run Tryd.prog w.drew = .ok (.slice t62_a_24 t62_l_24 t62_c_24) w__118 ∧
          ∃ (t65_a_47 : Option Addr) (t65_l_47 : Nat) (t65_c_47 : Nat) (w__119 : World),
          (Builtin.append_ #[83, 83] 83 ⟨[(.slice t62_a_24 t62_l_24 t62_c_24), (.slice (some ⟨w__118.heap.size, 0, none⟩) 1 1)]⟩).run Tryd.prog (w__118.alloc (.cells ⟨[(.int .i64 t63_0_9), (.int .i64 t63_1_9), (.int .i64 t63_2_9)]⟩ 58)) = .ok (.slice t65_a_47 t65_l_47 t65_c_47) w__119 ∧
          ∃ (w__120 : World),
          (Instr.mapUpdate 73 (.map t53_21) (.int .i64 t55_27) (.slice t65_a_47 t65_l_47 t65_c_47)).run Tryd.prog w__119 = .ok () w__120 ∧
          S17_k4 s_ h all_a all_l all_c x now w__120 R B1
        ) ∧
        (
          ∃ (t62_a_25 : Option Addr) (t62_l_25 : Nat) (t62_c_25 : Nat) (w__121 : World),
          (Instr.lookup 73 (.map t59) (.int .i64 t61) false).run Tryd.prog (w.drew.alloc (.cells ⟨[(.int .i64 t63_0_9), (.int .i64 t63_1_9), (.int .i64 t63_2_9)]⟩ 58)) = .ok (.slice t62_a_25 t62_l_25 t62_c_25) w__121 ∧
          ∃ (t65_a_48 : Option Addr) (t65_l_48 : Nat) (t65_c_48 : Nat) (w__122 : World),
          (Builtin.append_ #[83, 83] 83 ⟨[(.slice t62_a_25 t62_l_25 t62_c_25), (.slice (some ⟨w.drew.heap.size, 0, none⟩) 1 1)]⟩).run Tryd.prog w__121 = .ok (.slice t65_a_48 t65_l_48 t65_c_48) w__122 ∧
          ∃ (w__123 : World),
          (Instr.mapUpdate 73 (.map t53_21) (.int .i64 t55_27) (.slice t65_a_48 t65_l_48 t65_c_48)).run Tryd.prog w__122 = .ok () w__123 ∧
          S17_k4 s_ h all_a all_l all_c x now w__123 R B1
        )
      ) ∧
      (
        ∃ (t62_a_26 : Option Addr) (t62_l_26 : Nat) (t62_c_26 : Nat) (w__124 : World),
        (Instr.lookup 73 (.map t59) (.int .i64 t61) false).run Tryd.prog w.drew = .ok (.slice t62_a_26 t62_l_26 t62_c_26) w__124 ∧
        (
          ∃ (t53_22 : Option Nat),
          w__124.cell? (t51.add 7) = some (.map t53_22) ∧
          ∃ (t65_a_49 : Option Addr) (t65_l_49 : Nat) (t65_c_49 : Nat) (w__125 : World),
          (Builtin.append_ #[83, 83] 83 ⟨[(.slice t62_a_26 t62_l_26 t62_c_26), (.slice (some ⟨w__124.heap.size, 0, none⟩) 1 1)]⟩).run Tryd.prog (w__124.alloc (.cells ⟨[(.int .i64 t63_0_9), (.int .i64 t63_1_9), (.int .i64 t63_2_9)]⟩ 58)) = .ok (.slice t65_a_49 t65_l_49 t65_c_49) w__125 ∧
          ∃ (w__126 : World),
          (Instr.mapUpdate 73 (.map t53_22) (.int .i64 t55_27) (.slice t65_a_49 t65_l_49 t65_c_49)).run Tryd.prog w__125 = .ok () w__126 ∧
          S17_k4 s_ h all_a all_l all_c x now w__126 R B1
        ) ∧
        (
          (
            ∃ (t53_23 : Option Nat),
            (w__124.alloc (.cells ⟨[(.int .i64 t63_0_9), (.int .i64 t63_1_9), (.int .i64 t63_2_9)]⟩ 58)).cell? (t51.add 7) = some (.map t53_23) ∧
            ∃ (t65_a_50 : Option Addr) (t65_l_50 : Nat) (t65_c_50 : Nat) (w__127 : World),
            (Builtin.append_ #[83, 83] 83 ⟨[(.slice t62_a_26 t62_l_26 t62_c_26), (.slice (some ⟨w__124.heap.size, 0, none⟩) 1 1)]⟩).run Tryd.prog (w__124.alloc (.cells ⟨[(.int .i64 t63_0_9), (.int .i64 t63_1_9), (.int .i64 t63_2_9)]⟩ 58)) = .ok (.slice t65_a_50 t65_l_50 t65_c_50) w__127 ∧
            ∃ (w__128 : World),
            (Instr.mapUpdate 73 (.map t53_23) (.int .i64 t55_27) (.slice t65_a_50 t65_l_50 t65_c_50)).run Tryd.prog w__127 = .ok () w__128 ∧
            S17_k4 s_ h all_a all_l all_c x now w__128 R B1
          ) ∧
          (
            ∃ (t65_a_51 : Option Addr) (t65_l_51 : Nat) (t65_c_51 : Nat) (w__129 : World),
            (Builtin.append_ #[83, 83] 83 ⟨[(.slice t62_a_26 t62_l_26 t62_c_26), (.slice (some ⟨w__124.heap.size, 0, none⟩) 1 1)]⟩).run Tryd.prog (w__124.alloc (.cells ⟨[(.int .i64 t63_0_9), (.int .i64 t63_1_9), (.int .i64 t63_2_9)]⟩ 58)) = .ok (.slice t65_a_51 t65_l_51 t65_c_51) w__129 ∧
            ∃ (t53_24 : Option Nat),
            w__129.cell? (t51.add 7) = some (.map t53_24) ∧
            ∃ (w__130 : World),
            (Instr.mapUpdate 73 (.map t53_24) (.int .i64 t55_27) (.slice t65_a_51 t65_l_51 t65_c_51)).run Tryd.prog w__129 = .ok () w__130 ∧
            S17_k4 s_ h all_a all_l all_c x now w__130 R B1
          )
        )
      ) ∧
      (
        (
          ∃ (t53_25 : Option Nat),
          (w.drew.alloc (.cells ⟨[(.int .i64 t63_0_9), (.int .i64 t63_1_9), (.int .i64 t63_2_9)]⟩ 58)).cell? (t51.add 7) = some (.map t53_25) ∧
          ∃ (t62_a_27 : Option Addr) (t62_l_27 : Nat) (t62_c_27 : Nat) (w__131 : World),
          (Instr.lookup 73 (.map t59) (.int .i64 t61) false).run Tryd.prog (w.drew.alloc (.cells ⟨[(.int .i64 t63_0_9), (.int .i64 t63_1_9), (.int .i64 t63_2_9)]⟩ 58)) = .ok (.slice t62_a_27 t62_l_27 t62_c_27) w__131 ∧
          ∃ (t65_a_52 : Option Addr) (t65_l_52 : Nat) (t65_c_52 : Nat) (w__132 : World),
          (Builtin.append_ #[83, 83] 83 ⟨[(.slice t62_a_27 t62_l_27 t62_c_27), (.slice (some ⟨w.drew.heap.size, 0, none⟩) 1 1)]⟩).run Tryd.prog w__131 = .ok (.slice t65_a_52 t65_l_52 t65_c_52) w__132 ∧
          ∃ (w__133 : World),
          (Instr.mapUpdate 73 (.map t53_25) (.int .i64 t55_27) (.slice t65_a_52 t65_l_52 t65_c_52)).run Tryd.prog w__132 = .ok () w__133 ∧
          S17_k4 s_ h all_a all_l all_c x now w__133 R B1
        ) ∧
        (
          ∃ (t62_a_28 : Option Addr) (t62_l_28 : Nat) (t62_c_28 : Nat) (w__134 : World),
          (Instr.lookup 73 (.map t59) (.int .i64 t61) false).run Tryd.prog (w.drew.alloc (.cells ⟨[(.int .i64 t63_0_9), (.int .i64 t63_1_9), (.int .i64 t63_2_9)]⟩ 58)) = .ok (.slice t62_a_28 t62_l_28 t62_c_28) w__134 ∧
          (
            ∃ (t53_26 : Option Nat),
            w__134.cell? (t51.add 7) = some (.map t53_26) ∧
            ∃ (t65_a_53 : Option Addr) (t65_l_53 : Nat) (t65_c_53 : Nat) (w__135 : World),
            (Builtin.append_ #[83, 83] 83 ⟨[(.slice t62_a_28 t62_l_28 t62_c_28), (.slice (some ⟨w.drew.heap.size, 0, none⟩) 1 1)]⟩).run Tryd.prog w__134 = .ok (.slice t65_a_53 t65_l_53 t65_c_53) w__135 ∧
            ∃ (w__136 : World),
            (Instr.mapUpdate 73 (.map t53_26) (.int .i64 t55_27) (.slice t65_a_53 t65_l_53 t65_c_53)).run Tryd.prog w__135 = .ok () w__136 ∧
            S17_k4 s_ h all_a all_l all_c x now w__136 R B1
          ) ∧
          (
            ∃ (t65_a_54 : Option Addr) (t65_l_54 : Nat) (t65_c_54 : Nat) (w__137 : World),
            (Builtin.append_ #[83, 83] 83 ⟨[(.slice t62_a_28 t62_l_28 t62_c_28), (.slice (some ⟨w.drew.heap.size, 0, none⟩) 1 1)]⟩).run Tryd.prog w__134 = .ok (.slice t65_a_54 t65_l_54 t65_c_54) w__137 ∧
            ∃ (t53_27 : Option Nat),
            w__137.cell? (t51.add 7) = some (.map t53_27) ∧
            ∃ (w__138 : World),
            (Instr.mapUpdate 73 (.map t53_27) (.int .i64 t55_27) (.slice t65_a_54 t65_l_54 t65_c_54)).run Tryd.prog w__137 = .ok () w__138 ∧
            S17_k4 s_ h all_a all_l all_c x now w__138 R B1
          )
        )
      )
    ) ∧
    (
      ∃ (t62_a_29 : Option Addr) (t62_l_29 : Nat) (t62_c_29 : Nat) (w__139 : World),
      (Instr.lookup 73 (.map t59) (.int .i64 t61) false).run Tryd.prog w.drew = .ok (.slice t62_a_29 t62_l_29 t62_c_29) w__139 ∧
      (
        ∃ (t53_28 : Option Nat),
        w__139.cell? (t51.add 7) = some (.map t53_28) ∧
        (
          ∃ (t55_28 : Int),
          w__139.cell? now = some (.int .i64 t55_28) ∧
          ∃ (t65_a_55 : Option Addr) (t65_l_55 : Nat) (t65_c_55 : Nat) (w__140 : World),
          (Builtin.append_ #[83, 83] 83 ⟨[(.slice t62_a_29 t62_l_29 t62_c_29), (.slice (some ⟨w__139.heap.size, 0, none⟩) 1 1)]⟩).run Tryd.prog (w__139.alloc (.cells ⟨[(.int .i64 t63_0_9), (.int .i64 t63_1_9), (.int .i64 t63_2_9)]⟩ 58)) = .ok (.slice t65_a_55 t65_l_55 t65_c_55) w__140 ∧
          ∃ (w__141 : World),
          (Instr.mapUpdate 73 (.map t53_28) (.int .i64 t55_28) (.slice t65_a_55 t65_l_55 t65_c_55)).run Tryd.prog w__140 = .ok () w__141 ∧
          S17_k4 s_ h all_a all_l all_c x now w__141 R B1
        ) ∧
        (
          (
            ∃ (t55_29 : Int),
            (w__139.alloc (.cells ⟨[(.int .i64 t63_0_9), (.int .i64 t63_1_9), (.int .i64 t63_2_9)]⟩ 58)).cell? now = some (.int .i64 t55_29) ∧
            ∃ (t65_a_56 : Option Addr) (t65_l_56 : Nat) (t65_c_56 : Nat) (w__142 : World),
            (Builtin.append_ #[83, 83] 83 ⟨[(.slice t62_a_29 t62_l_29 t62_c_29), (.slice (some ⟨w__139.heap.size, 0, none⟩) 1 1)]⟩).run Tryd.prog (w__139.alloc (.cells ⟨[(.int .i64 t63_0_9), (.int .i64 t63_1_9), (.int .i64 t63_2_9)]⟩ 58)) = .ok (.slice t65_a_56 t65_l_56 t65_c_56) w__142 ∧
            ∃ (w__143 : World),
            (Instr.mapUpdate 73 (.map t53_28) (.int .i64 t55_29) (.slice t65_a_56 t65_l_56 t65_c_56)).run Tryd.prog w__142 = .ok () w__143 ∧
            S17_k4 s_ h all_a all_l all_c x now w__143 R B1
          ) ∧
          (
            ∃ (t65_a_57 : Option Addr) (t65_l_57 : Nat) (t65_c_57 : Nat) (w__144 : World),
            (Builtin.append_ #[83, 83] 83 ⟨[(.slice t62_a_29 t62_l_29 t62_c_29), (.slice (some ⟨w__139.heap.size, 0, none⟩) 1 1)]⟩).run Tryd.prog (w__139.alloc (.cells ⟨[(.int .i64 t63_0_9), (.int .i64 t63_1_9), (.int .i64 t63_2_9)]⟩ 58)) = .ok (.slice t65_a_57 t65_l_57 t65_c_57) w__144 ∧
            ∃ (t55_30 : Int),
            w__144.cell? now = some (.int .i64 t55_30) ∧
            ∃ (w__145 : World),
            (Instr.mapUpdate 73 (.map t53_28) (.int .i64 t55_30) (.slice t65_a_57 t65_l_57 t65_c_57)).run Tryd.prog w__144 = .ok () w__145 ∧
            S17_k4 s_ h all_a all_l all_c x now w__145 R B1
          )
        )
      ) ∧
      (
        ∃ (t55_31 : Int),
        w__139.cell? now = some (.int .i64 t55_31) ∧
        (
          ∃ (t53_29 : Option Nat),
          w__139.cell? (t51.add 7) = some (.map t53_29) ∧
          ∃ (t65_a_58 : Option Addr) (t65_l_58 : Nat) (t65_c_58 : Nat) (w__146 : World),
          (Builtin.append_ #[83, 83] 83 ⟨[(.slice t62_a_29 t62_l_29 t62_c_29), (.slice (some ⟨w__139.heap.size, 0, none⟩) 1 1)]⟩).run Tryd.prog (w__139.alloc (.cells ⟨[(.int .i64 t63_0_9), (.int .i64 t63_1_9), (.int .i64 t63_2_9)]⟩ 58)) = .ok (.slice t65_a_58 t65_l_58 t65_c_58) w__146 ∧
          ∃ (w__147 : World),
          (Instr.mapUpdate 73 (.map t53_29) (.int .i64 t55_31) (.slice t65_a_58 t65_l_58 t65_c_58)).run Tryd.prog w__146 = .ok () w__147 ∧
          S17_k4 s_ h all_a all_l all_c x now w__147 R B1
        ) ∧
        (
          (
            ∃ (t53_30 : Option Nat),
            (w__139.alloc (.cells ⟨[(.int .i64 t63_0_9), (.int .i64 t63_1_9), (.int .i64 t63_2_9)]⟩ 58)).cell? (t51.add 7) = some (.map t53_30) ∧
            ∃ (t65_a_59 : Option Addr) (t65_l_59 : Nat) (t65_c_59 : Nat) (w__148 : World),
            (Builtin.append_ #[83, 83] 83 ⟨[(.slice t62_a_29 t62_l_29 t62_c_29), (.slice (some ⟨w__139.heap.size, 0, none⟩) 1 1)]⟩).run Tryd.prog (w__139.alloc (.cells ⟨[(.int .i64 t63_0_9), (.int .i64 t63_1_9), (.int .i64 t63_2_9)]⟩ 58)) = .ok (.slice t65_a_59 t65_l_59 t65_c_59) w__148 ∧
            ∃ (w__149 : World),
            (Instr.mapUpdate 73 (.map t53_30) (.int .i64 t55_31) (.slice t65_a_59 t65_l_59 t65_c_59)).run Tryd.prog w__148 = .ok () w__149 ∧
            S17_k4 s_ h all_a all_l all_c x now w__149 R B1
          ) ∧
          (
            ∃ (t65_a_60 : Option Addr) (t65_l_60 : Nat) (t65_c_60 : Nat) (w__150 : World),
            (Builtin.append_ #[83, 83] 83 ⟨[(.slice t62_a_29 t62_l_29 t62_c_29), (.slice (some ⟨w__139.heap.size, 0, none⟩) 1 1)]⟩).run Tryd.prog (w__139.alloc (.cells ⟨[(.int .i64 t63_0_9), (.int .i64 t63_1_9), (.int .i64 t63_2_9)]⟩ 58)) = .ok (.slice t65_a_60 t65_l_60 t65_c_60) w__150 ∧
            ∃ (t53_31 : Option Nat),
            w__150.cell? (t51.add 7) = some (.map t53_31) ∧
            ∃ (w__151 : World),
            (Instr.mapUpdate 73 (.map t53_31) (.int .i64 t55_31) (.slice t65_a_60 t65_l_60 t65_c_60)).run Tryd.prog w__150 = .ok () w__151 ∧
            S17_k4 s_ h all_a all_l all_c x now w__151 R B1
          )
        )
      ) ∧
      (
        (
          ∃ (t53_32 : Option Nat),
          (w__139.alloc (.cells ⟨[(.int .i64 t63_0_9), (.int .i64 t63_1_9), (.int .i64 t63_2_9)]⟩ 58)).cell? (t51.add 7) = some (.map t53_32) ∧
          (
            ∃ (t55_32 : Int),
            (w__139.alloc (.cells ⟨[(.int .i64 t63_0_9), (.int .i64 t63_1_9), (.int .i64 t63_2_9)]⟩ 58)).cell? now = some (.int .i64 t55_32) ∧
            ∃ (t65_a_61 : Option Addr) (t65_l_61 : Nat) (t65_c_61 : Nat) (w__152 : World),
            (Builtin.append_ #[83, 83] 83 ⟨[(.slice t62_a_29 t62_l_29 t62_c_29), (.slice (some ⟨w__139.heap.size, 0, none⟩) 1 1)]⟩).run Tryd.prog (w__139.alloc (.cells ⟨[(.int .i64 t63_0_9), (.int .i64 t63_1_9), (.int .i64 t63_2_9)]⟩ 58)) = .ok (.slice t65_a_61 t65_l_61 t65_c_61) w__152 ∧
            ∃ (w__153 : World),
            (Instr.mapUpdate 73 (.map t53_32) (.int .i64 t55_32) (.slice t65_a_61 t65_l_61 t65_c_61)).run Tryd.prog w__152 = .ok () w__153 ∧
            S17_k4 s_ h all_a all_l all_c x now w__153 R B1
          ) ∧
          (
            ∃ (t65_a_62 : Option Addr) (t65_l_62 : Nat) (t65_c_62 : Nat) (w__154 : World),
            (Builtin.append_ #[83, 83] 83 ⟨[(.slice t62_a_29 t62_l_29 t62_c_29), (.slice (some ⟨w__139.heap.size, 0, none⟩) 1 1)]⟩).run Tryd.prog (w__139.alloc (.cells ⟨[(.int .i64 t63_0_9), (.int .i64 t63_1_9), (.int .i64 t63_2_9)]⟩ 58)) = .ok (.slice t65_a_62 t65_l_62 t65_c_62) w__154 ∧
            ∃ (t55_33 : Int),
            w__154.cell? now = some (.int .i64 t55_33) ∧
            ∃ (w__155 : World),
            (Instr.mapUpdate 73 (.map t53_32) (.int .i64 t55_33) (.slice t65_a_62 t65_l_62 t65_c_62)).run Tryd.prog w__154 = .ok () w__155 ∧
            S17_k4 s_ h all_a all_l all_c x now w__155 R B1
          )
        ) ∧
        (
          ∃ (t55_34 : Int),
          (w__139.alloc (.cells ⟨[(.int .i64 t63_0_9), (.int .i64 t63_1_9), (.int .i64 t63_2_9)]⟩ 58)).cell? now = some (.int .i64 t55_34) ∧
          (
            ∃ (t53_33 : Option Nat),
            (w__139.alloc (.cells ⟨[(.int .i64 t63_0_9), (.int .i64 t63_1_9), (.int .i64 t63_2_9)]⟩ 58)).cell? (t51.add 7) = some (.map t53_33) ∧
            ∃ (t65_a_63 : Option Addr) (t65_l_63 : Nat) (t65_c_63 : Nat) (w__156 : World),
            (Builtin.append_ #[83, 83] 83 ⟨[(.slice t62_a_29 t62_l_29 t62_c_29), (.slice (some ⟨w__139.heap.size, 0, none⟩) 1 1)]⟩).run Tryd.prog (w__139.alloc (.cells ⟨[(.int .i64 t63_0_9), (.int .i64 t63_1_9), (.int .i64 t63_2_9)]⟩ 58)) = .ok (.slice t65_a_63 t65_l_63 t65_c_63) w__156 ∧
            ∃ (w__157 : World),
            (Instr.mapUpdate 73 (.map t53_33) (.int .i64 t55_34) (.slice t65_a_63 t65_l_63 t65_c_63)).run Tryd.prog w__156 = .ok () w__157 ∧
            S17_k4 s_ h all_a all_l all_c x now w__157 R B1
          ) ∧
          (
            ∃ (t65_a_64 : Option Addr) (t65_l_64 : Nat) (t65_c_64 : Nat) (w__158 : World),
            (Builtin.append_ #[83, 83] 83 ⟨[(.slice t62_a_29 t62_l_29 t62_c_29), (.slice (some ⟨w__139.heap.size, 0, none⟩) 1 1)]⟩).run Tryd.prog (w__139.alloc (.cells ⟨[(.int .i64 t63_0_9), (.int .i64 t63_1_9), (.int .i64 t63_2_9)]⟩ 58)) = .ok (.slice t65_a_64 t65_l_64 t65_c_64) w__158 ∧
            ∃ (t53_34 : Option Nat),
            w__158.cell? (t51.add 7) = some (.map t53_34) ∧
            ∃ (w__159 : World),
            (Instr.mapUpdate 73 (.map t53_34) (.int .i64 t55_34) (.slice t65_a_64 t65_l_64 t65_c_64)).run Tryd.prog w__158 = .ok () w__159 ∧
            S17_k4 s_ h all_a all_l all_c x now w__159 R B1
          )
        ) ∧
        (
          ∃ (t65_a_65 : Option Addr) (t65_l_65 : Nat) (t65_c_65 : Nat) (w__160 : World),
          (Builtin.append_ #[83, 83] 83 ⟨[(.slice t62_a_29 t62_l_29 t62_c_29), (.slice (some ⟨w__139.heap.size, 0, none⟩) 1 1)]⟩).run Tryd.prog (w__139.alloc (.cells ⟨[(.int .i64 t63_0_9), (.int .i64 t63_1_9), (.int .i64 t63_2_9)]⟩ 58)) = .ok (.slice t65_a_65 t65_l_65 t65_c_65) w__160 ∧
          ∃ (t53_35 : Option Nat),
          w__160.cell? (t51.add 7) = some (.map t53_35) ∧
          ∃ (t55_35 : Int),
          w__160.cell? now = some (.int .i64 t55_35) ∧
          ∃ (w__161 : World),
          (Instr.mapUpdate 73 (.map t53_35) (.int .i64 t55_35) (.slice t65_a_65 t65_l_65 t65_c_65)).run Tryd.prog w__160 = .ok () w__161 ∧
          S17_k4 s_ h all_a all_l all_c x now w__161 R B1
        )
      )
    ) ∧
    (
      (
        ∃ (t53_36 : Option Nat),
        (w.drew.alloc (.cells ⟨[(.int .i64 t63_0_9), (.int .i64 t63_1_9), (.int .i64 t63_2_9)]⟩ 58)).cell? (t51.add 7) = some (.map t53_36) ∧
        (
          ∃ (t55_36 : Int),
          (w.drew.alloc (.cells ⟨[(.int .i64 t63_0_9), (.int .i64 t63_1_9), (.int .i64 t63_2_9)]⟩ 58)).cell? now = some (.int .i64 t55_36) ∧
          ∃ (t62_a_30 : Option Addr) (t62_l_30 : Nat) (t62_c_30 : Nat) (w__162 : World),
          (Instr.lookup 73 (.map t59) (.int .i64 t61) false).run Tryd.prog (w.drew.alloc (.cells ⟨[(.int .i64 t63_0_9), (.int .i64 t63_1_9), (.int .i64 t63_2_9)]⟩ 58)) = .ok (.slice t62_a_30 t62_l_30 t62_c_30) w__162 ∧
          ∃ (t65_a_66 : Option Addr) (t65_l_66 : Nat) (t65_c_66 : Nat) (w__163 : World),
          (Builtin.append_ #[83, 83] 83 ⟨[(.slice t62_a_30 t62_l_30 t62_c_30), (.slice (some ⟨w.drew.heap.size, 0, none⟩) 1 1)]⟩).run Tryd.prog w__162 = .ok (.slice t65_a_66 t65_l_66 t65_c_66) w__163 ∧
          ∃ (w__164 : World),
          (Instr.mapUpdate 73 (.map t53_36) (.int .i64 t55_36) (.slice t65_a_66 t65_l_66 t65_c_66)).run Tryd.prog w__163 = .ok () w__164 ∧
          S17_k4 s_ h all_a all_l all_c x now w__164 R B1
        ) ∧
        (
          ∃ (t62_a_31 : Option Addr) (t62_l_31 : Nat) (t62_c_31 : Nat) (w__165 : World),
          (Instr.lookup 73 (.map t59) (.int .i64 t61) false).run Tryd.prog (w.drew.alloc (.cells ⟨[(.int .i64 t63_0_9), (.int .i64 t63_1_9), (.int .i64 t63_2_9)]⟩ 58)) = .ok (.slice t62_a_31 t62_l_31 t62_c_31) w__165 ∧
          (
            ∃ (t55_37 : Int),
            w__165.cell? now = some (.int .i64 t55_37) ∧
            ∃ (t65_a_67 : Option Addr) (t65_l_67 : Nat) (t65_c_67 : Nat) (w__166 : World),
            (Builtin.append_ #[83, 83] 83 ⟨[(.slice t62_a_31 t62_l_31 t62_c_31), (.slice (some ⟨w.drew.heap.size, 0, none⟩) 1 1)]⟩).run Tryd.prog w__165 = .ok (.slice t65_a_67 t65_l_67 t65_c_67) w__166 ∧
            ∃ (w__167 : World),
            (Instr.mapUpdate 73 (.map t53_36) (.int .i64 t55_37) (.slice t65_a_67 t65_l_67 t65_c_67)).run Tryd.prog w__166 = .ok () w__167 ∧
            S17_k4 s_ h all_a all_l all_c x now w__167 R B1
          ) ∧
          (
            ∃ (t65_a_68 : Option Addr) (t65_l_68 : Nat) (t65_c_68 : Nat) (w__168 : World),
            (Builtin.append_ #[83, 83] 83 ⟨[(.slice t62_a_31 t62_l_31 t62_c_31), (.slice (some ⟨w.drew.heap.size, 0, none⟩) 1 1)]⟩).run Tryd.prog w__165 = .ok (.slice t65_a_68 t65_l_68 t65_c_68) w__168 ∧
            ∃ (t55_38 : Int),
            w__168.cell? now = some (.int .i64 t55_38) ∧
            ∃ (w__169 : World),
            (Instr.mapUpdate 73 (.map t53_36) (.int .i64 t55_38) (.slice t65_a_68 t65_l_68 t65_c_68)).run Tryd.prog w__168 = .ok () w__169 ∧
            S17_k4 s_ h all_a all_l all_c x now w__169 R B1
          )
        )
      ) ∧
      (
        ∃ (t55_39 : Int),
        (w.drew.alloc (.cells ⟨[(.int .i64 t63_0_9), (.int .i64 t63_1_9), (.int .i64 t63_2_9)]⟩ 58)).cell? now = some (.int .i64 t55_39) ∧
        (
          ∃ (t53_37 : Option Nat),
          (w.drew.alloc (.cells ⟨[(.int .i64 t63_0_9), (.int .i64 t63_1_9), (.int .i64 t63_2_9)]⟩ 58)).cell? (t51.add 7) = some (.map t53_37) ∧
          ∃ (t62_a_32 : Option Addr) (t62_l_32 : Nat) (t62_c_32 : Nat) (w__170 : World),
          (Instr.lookup 73 (.map t59) (.int .i64 t61) false).run Tryd.prog (w.drew.alloc (.cells ⟨[(.int .i64 t63_0_9), (.int .i64 t63_1_9), (.int .i64 t63_2_9)]⟩ 58)) = .ok (.slice t62_a_32 t62_l_32 t62_c_32) w__170 ∧
          ∃ (t65_a_69 : Option Addr) (t65_l_69 : Nat) (t65_c_69 : Nat) (w__171 : World),
          (Builtin.append_ #[83, 83] 83 ⟨[(.slice t62_a_32 t62_l_32 t62_c_32), (.slice (some ⟨w.drew.heap.size, 0, none⟩) 1 1)]⟩).run Tryd.prog w__170 = .ok (.slice t65_a_69 t65_l_69 t65_c_69) w__171 ∧
          ∃ (w__172 : World),
          (Instr.mapUpdate 73 (.map t53_37) (.int .i64 t55_39) (.slice t65_a_69 t65_l_69 t65_c_69)).run Tryd.prog w__171 = .ok () w__172 ∧
          S17_k4 s_ h all_a all_l all_c x now w__172 R B1
        ) ∧
        (
          ∃ (t62_a_33 : Option Addr) (t62_l_33 : Nat) (t62_c_33 : Nat) (w__173 : World),
          (Instr.lookup 73 (.map t59) (.int .i64 t61) false).run Tryd.prog (w.drew.alloc (.cells ⟨[(.int .i64 t63_0_9), (.int .i64 t63_1_9), (.int .i64 t63_2_9)]⟩ 58)) = .ok (.slice t62_a_33 t62_l_33 t62_c_33) w__173 ∧
          (
            ∃ (t53_38 : Option Nat),
            w__173.cell? (t51.add 7) = some (.map t53_38) ∧
            ∃ (t65_a_70 : Option Addr) (t65_l_70 : Nat) (t65_c_70 : Nat) (w__174 : World),
            (Builtin.append_ #[83, 83] 83 ⟨[(.slice t62_a_33 t62_l_33 t62_c_33), (.slice (some ⟨w.drew.heap.size, 0, none⟩) 1 1)]⟩).run Tryd.prog w__173 = .ok (.slice t65_a_70 t65_l_70 t65_c_70) w__174 ∧
            ∃ (w__175 : World),
            (Instr.mapUpdate 73 (.map t53_38) (.int .i64 t55_39) (.slice t65_a_70 t65_l_70 t65_c_70)).run Tryd.prog w__174 = .ok () w__175 ∧
            S17_k4 s_ h all_a all_l all_c x now w__175 R B1
          ) ∧
          (
            ∃ (t65_a_71 : Option Addr) (t65_l_71 : Nat) (t65_c_71 : Nat) (w__176 : World),
            (Builtin.append_ #[83, 83] 83 ⟨[(.slice t62_a_33 t62_l_33 t62_c_33), (.slice (some ⟨w.drew.heap.size, 0, none⟩) 1 1)]⟩).run Tryd.prog w__173 = .ok (.slice t65_a_71 t65_l_71 t65_c_71) w__176 ∧
            ∃ (t53_39 : Option Nat),
            w__176.cell? (t51.add 7) = some (.map t53_39) ∧
            ∃ (w__177 : World),
            (Instr.mapUpdate 73 (.map t53_39) (.int .i64 t55_39) (.slice t65_a_71 t65_l_71 t65_c_71)).run Tryd.prog w__176 = .ok () w__177 ∧
            S17_k4 s_ h all_a all_l all_c x now w__177 R B1
          )
        )
      ) ∧
      (
        ∃ (t62_a_34 : Option Addr) (t62_l_34 : Nat) (t62_c_34 : Nat) (w__178 : World),
        (Instr.lookup 73 (.map t59) (.int .i64 t61) false).run Tryd.prog (w.drew.alloc (.cells ⟨[(.int .i64 t63_0_9), (.int .i64 t63_1_9), (.int .i64 t63_2_9)]⟩ 58)) = .ok (.slice t62_a_34 t62_l_34 t62_c_34) w__178 ∧
        (
          ∃ (t53_40 : Option Nat),
          w__178.cell? (t51.add 7) = some (.map t53_40) ∧
          (
            ∃ (t55_40 : Int),
            w__178.cell? now = some (.int .i64 t55_40) ∧
            ∃ (t65_a_72 : Option Addr) (t65_l_72 : Nat) (t65_c_72 : Nat) (w__179 : World),
            (Builtin.append_ #[83, 83] 83 ⟨[(.slice t62_a_34 t62_l_34 t62_c_34), (.slice (some ⟨w.drew.heap.size, 0, none⟩) 1 1)]⟩).run Tryd.prog w__178 = .ok (.slice t65_a_72 t65_l_72 t65_c_72) w__179 ∧
            ∃ (w__180 : World),
            (Instr.mapUpdate 73 (.map t53_40) (.int .i64 t55_40) (.slice t65_a_72 t65_l_72 t65_c_72)).run Tryd.prog w__179 = .ok () w__180 ∧
            S17_k4 s_ h all_a all_l all_c x now w__180 R B1
          ) ∧
          (
            ∃ (t65_a_73 : Option Addr) (t65_l_73 : Nat) (t65_c_73 : Nat) (w__181 : World),
            (Builtin.append_ #[83, 83] 83 ⟨[(.slice t62_a_34 t62_l_34 t62_c_34), (.slice (some ⟨w.drew.heap.size, 0, none⟩) 1 1)]⟩).run Tryd.prog w__178 = .ok (.slice t65_a_73 t65_l_73 t65_c_73) w__181 ∧
            ∃ (t55_41 : Int),
            w__181.cell? now = some (.int .i64 t55_41) ∧
            ∃ (w__182 : World),
            (Instr.mapUpdate 73 (.map t53_40) (.int .i64 t55_41) (.slice t65_a_73 t65_l_73 t65_c_73)).run Tryd.prog w__181 = .ok () w__182 ∧
            S17_k4 s_ h all_a all_l all_c x now w__182 R B1
          )
        ) ∧
        (
          ∃ (t55_42 : Int),
          w__178.cell? now = some (.int .i64 t55_42) ∧
          (
            ∃ (t53_41 : Option Nat),
            w__178.cell? (t51.add 7) = some (.map t53_41) ∧
            ∃ (t65_a_74 : Option Addr) (t65_l_74 : Nat) (t65_c_74 : Nat) (w__183 : World),
            (Builtin.append_ #[83, 83] 83 ⟨[(.slice t62_a_34 t62_l_34 t62_c_34), (.slice (some ⟨w.drew.heap.size, 0, none⟩) 1 1)]⟩).run Tryd.prog w__178 = .ok (.slice t65_a_74 t65_l_74 t65_c_74) w__183 ∧
            ∃ (w__184 : World),
            (Instr.mapUpdate 73 (.map t53_41) (.int .i64 t55_42) (.slice t65_a_74 t65_l_74 t65_c_74)).run Tryd.prog w__183 = .ok () w__184 ∧
            S17_k4 s_ h all_a all_l all_c x now w__184 R B1
          ) ∧
          (
            ∃ (t65_a_75 : Option Addr) (t65_l_75 : Nat) (t65_c_75 : Nat) (w__185 : World),
            (Builtin.append_ #[83, 83] 83 ⟨[(.slice t62_a_34 t62_l_34 t62_c_34), (.slice (some ⟨w.drew.heap.size, 0, none⟩) 1 1)]⟩).run Tryd.prog w__178 = .ok (.slice t65_a_75 t65_l_75 t65_c_75) w__185 ∧
            ∃ (t53_42 : Option Nat),
            w__185.cell? (t51.add 7) = some (.map t53_42) ∧
            ∃ (w__186 : World),
            (Instr.mapUpdate 73 (.map t53_42) (.int .i64 t55_42) (.slice t65_a_75 t65_l_75 t65_c_75)).run Tryd.prog w__185 = .ok () w__186 ∧
            S17_k4 s_ h all_a all_l all_c x now w__186 R B1
          )
        ) ∧
        (
          ∃ (t65_a_76 : Option Addr) (t65_l_76 : Nat) (t65_c_76 : Nat) (w__187 : World),
          (Builtin.append_ #[83, 83] 83 ⟨[(.slice t62_a_34 t62_l_34 t62_c_34), (.slice (some ⟨w.drew.heap.size, 0, none⟩) 1 1)]⟩).run Tryd.prog w__178 = .ok (.slice t65_a_76 t65_l_76 t65_c_76) w__187 ∧
          ∃ (t53_43 : Option Nat),
          w__187.cell? (t51.add 7) = some (.map t53_43) ∧
          ∃ (t55_43 : Int),
          w__187.cell? now = some (.int .i64 t55_43) ∧
          ∃ (w__188 : World),
          (Instr.mapUpdate 73 (.map t53_43) (.int .i64 t55_43) (.slice t65_a_76 t65_l_76 t65_c_76)).run Tryd.prog w__187 = .ok () w__188 ∧
          S17_k4 s_ h all_a all_l all_c x now w__188 R B1
        )
      )
    )
  )

def S17_k1 (s_ : Option Addr) (h : Option Addr) (all_a : Option Addr) (all_l : Nat) (all_c : Nat) (x : Addr) (w : World) (R : Value → World → Prop) (B1 : (Option Addr × Nat × Nat) × (Addr) × (Bool) × Unit → World → Prop) : Prop :=
  ∃ (t44 : Int),
  w.cell? (x.add 1) = some (.int .i64 t44) ∧
  ∃ (t45 : Addr),
  all_a = some t45 ∧
  0 ≤ (t44 : Int) ∧
  (t44 : Int) < ((all_l : Nat) : Int) ∧
  ∃ (t46_0 : Int),
  w.cell? (t45.add (Int.toNat t44 * 3)) = some (.int .i64 t46_0) ∧
  ∃ (t46_1 : Int),
  w.cell? ((t45.add (Int.toNat t44 * 3)).add 1) = some (.int .i64 t46_1) ∧
  ∃ (t46_2 : Int),
  w.cell? ((t45.add (Int.toNat t44 * 3)).add 2) = some (.int .i64 t46_2) ∧
  (∃ u, (w.alloc (.cells ⟨[(.int .i64 0), (.int .i64 0), (.int .i64 0)]⟩ 58)).cell? ⟨w.heap.size, 0, none⟩ = some u) ∧
  (w.alloc (.cells ⟨[(.int .i64 0), (.int .i64 0), (.int .i64 0)]⟩ 58)).frozen? ⟨w.heap.size, 0, none⟩ = false ∧
  (∃ u, ((w.alloc (.cells ⟨[(.int .i64 0), (.int .i64 0), (.int .i64 0)]⟩ 58)).setCell ⟨w.heap.size, 0, none⟩ (.int .i64 t46_0)).cell? ⟨w.heap.size, 1, none⟩ = some u) ∧
  ((w.alloc (.cells ⟨[(.int .i64 0), (.int .i64 0), (.int .i64 0)]⟩ 58)).setCell ⟨w.heap.size, 0, none⟩ (.int .i64 t46_0)).frozen? ⟨w.heap.size, 1, none⟩ = false ∧
  (∃ u, (((w.alloc (.cells ⟨[(.int .i64 0), (.int .i64 0), (.int .i64 0)]⟩ 58)).setCell ⟨w.heap.size, 0, none⟩ (.int .i64 t46_0)).setCell ⟨w.heap.size, 1, none⟩ (.int .i64 t46_1)).cell? ⟨w.heap.size, 2, none⟩ = some u) ∧
  (((w.alloc (.cells ⟨[(.int .i64 0), (.int .i64 0), (.int .i64 0)]⟩ 58)).setCell ⟨w.heap.size, 0, none⟩ (.int .i64 t46_0)).setCell ⟨w.heap.size, 1, none⟩ (.int .i64 t46_1)).frozen? ⟨w.heap.size, 2, none⟩ = false ∧
  ∃ (t48_0 : Int),
  ((((w.alloc (.cells ⟨[(.int .i64 0), (.int .i64 0), (.int .i64 0)]⟩ 58)).setCell ⟨w.heap.size, 0, none⟩ (.int .i64 t46_0)).setCell ⟨w.heap.size, 1, none⟩ (.int .i64 t46_1)).setCell ⟨w.heap.size, 2, none⟩ (.int .i64 t46_2)).cell? ⟨w.heap.size, 0, none⟩ = some (.int .i64 t48_0) ∧
  ∃ (t48_1 : Int),
  ((((w.alloc (.cells ⟨[(.int .i64 0), (.int .i64 0), (.int .i64 0)]⟩ 58)).setCell ⟨w.heap.size, 0, none⟩ (.int .i64 t46_0)).setCell ⟨w.heap.size, 1, none⟩ (.int .i64 t46_1)).setCell ⟨w.heap.size, 2, none⟩ (.int .i64 t46_2)).cell? ⟨w.heap.size, 1, none⟩ = some (.int .i64 t48_1) ∧
  ∃ (t48_2 : Int),
  ((((w.alloc (.cells ⟨[(.int .i64 0), (.int .i64 0), (.int .i64 0)]⟩ 58)).setCell ⟨w.heap.size, 0, none⟩ (.int .i64 t46_0)).setCell ⟨w.heap.size, 1, none⟩ (.int .i64 t46_1)).setCell ⟨w.heap.size, 2, none⟩ (.int .i64 t46_2)).cell? ⟨w.heap.size, 2, none⟩ = some (.int .i64 t48_2) ∧
  Calls Tryd.prog 37 ⟨[(.pointer s_), (.agg ⟨[(.int .i64 t48_0), (.int .i64 t48_1), (.int .i64 t48_2)]⟩)]⟩ ((((w.alloc (.cells ⟨[(.int .i64 0), (.int .i64 0), (.int .i64 0)]⟩ 58)).setCell ⟨w.heap.size, 0, none⟩ (.int .i64 t46_0)).setCell ⟨w.heap.size, 1, none⟩ (.int .i64 t46_1)).setCell ⟨w.heap.size, 2, none⟩ (.int .i64 t46_2)) fun e w_ =>
    ∃ (t49 : Bool),
    e = .returned (.bool t49) ∧
    cond t49 (
      S17_k2 s_ h all_a all_l all_c x w_ R B1
    ) (
      S17_k3 s_ h all_a all_l all_c x ⟨w.heap.size, 0, none⟩ w_ R B1
    )

def S17_L0 (s_ : Option Addr) (h : Option Addr) (all_a : Option Addr) (all_l : Nat) (all_c : Nat) (x : Addr) (is : Bool) (w : World) (R : Value → World → Prop) (B1 : (Option Addr × Nat × Nat) × (Addr) × (Bool) × Unit → World → Prop) : Prop :=
  cond is (
    S17_k1 s_ h all_a all_l all_c x w R B1
  ) (
    R (.tuple ⟨[]⟩) w
  )

def S17 (s_ : Option Addr) (ahead : Int) (w : World) (R : Value → World → Prop) : Prop :=
  ∃ (t13 : Addr),
  s_ = some t13 ∧
  ∃ (t15 : Int),
  w.cell? (t13.add 5) = some (.int .i64 t15) ∧
  ∃ (t18 : Addr),
  s_ = some t18 ∧
  (∃ u, w.cell? (t18.add 6) = some u) ∧
  w.frozen? (t18.add 6) = false ∧
  Calls Tryd.prog 34 ⟨[]⟩ (w.setCell (t18.add 6) (.int .i64 (IntKind.i64.wrap (t15 + ahead)))) fun e w_ =>
    ∃ (t20 : Option Addr),
    e = .returned (.pointer t20) ∧
    Calls Tryd.prog 19 ⟨[(.pointer s_)]⟩ w_ fun e w__1 =>
      ∃ (t22_0 : Int) (t22_1 : Int) (t22_2 : Int),
      e = .returned (.agg ⟨[(.int .i64 t22_0), (.int .i64 t22_1), (.int .i64 t22_2)]⟩) ∧
      ∃ (t26 : Addr),
      s_ = some t26 ∧
      ∃ (t28 : Int),
      (w__1.alloc (.cells ⟨[(.int .i64 t22_0), (.int .i64 t22_1), (.int .i64 t22_2)]⟩ 58)).cell? (t26.add 5) = some (.int .i64 t28) ∧
      Calls Tryd.prog 35 ⟨[(.pointer t20), (.agg ⟨[(.int .i64 t28), (.int .i64 0)]⟩)]⟩ (w__1.alloc (.cells ⟨[(.int .i64 t22_0), (.int .i64 t22_1), (.int .i64 t22_2)]⟩ 58)) fun e w__2 =>
        e = .returned (.tuple ⟨[]⟩) ∧
        Calls Tryd.prog 36 ⟨[(.pointer t20)]⟩ w__2 fun e w__3 =>
          ∃ (t33_0_0 : Int) (t33_0_1 : Int) (t33_1 : Bool),
          e = .returned (.tuple ⟨[(.agg ⟨[(.int .i64 t33_0_0), (.int .i64 t33_0_1)]⟩), (.bool t33_1)]⟩) ∧
          (∃ u, (w__3.alloc (.cells ⟨[(.int .i64 0), (.int .i64 0)]⟩ 86)).cell? ⟨w__3.heap.size, 0, none⟩ = some u) ∧
          (w__3.alloc (.cells ⟨[(.int .i64 0), (.int .i64 0)]⟩ 86)).frozen? ⟨w__3.heap.size, 0, none⟩ = false ∧
          (∃ u, ((w__3.alloc (.cells ⟨[(.int .i64 0), (.int .i64 0)]⟩ 86)).setCell ⟨w__3.heap.size, 0, none⟩ (.int .i64 t33_0_0)).cell? ⟨w__3.heap.size, 1, none⟩ = some u) ∧
          ((w__3.alloc (.cells ⟨[(.int .i64 0), (.int .i64 0)]⟩ 86)).setCell ⟨w__3.heap.size, 0, none⟩ (.int .i64 t33_0_0)).frozen? ⟨w__3.heap.size, 1, none⟩ = false ∧
          ∃ (I : (Option Addr × Nat × Nat) × (Addr) × (Bool) × Unit → World → Prop) (μ : (Option Addr × Nat × Nat) × (Addr) × (Bool) × Unit → World → Nat),
          I (((some ⟨w__1.heap.size, 0, none⟩), 1, 1), ⟨w__3.heap.size, 0, none⟩, t33_1, ()) (((w__3.alloc (.cells ⟨[(.int .i64 0), (.int .i64 0)]⟩ 86)).setCell ⟨w__3.heap.size, 0, none⟩ (.int .i64 t33_0_0)).setCell ⟨w__3.heap.size, 1, none⟩ (.int .i64 t33_0_1)) ∧
          ∀ (J : Env) (s : (Option Addr × Nat × Nat) × (Addr) × (Bool) × Unit) (w' : World), I s w' →
            S17_L0 s_ t20 s.1.1 s.1.2.1 s.1.2.2 s.2.1 s.2.2.1 w' R (fun s' w'' => I s' w'' ∧ μ s' w'' < μ s w')

theorem S17_eq (s_ : Option Addr) (ahead : Int) (w : World) (R : Value → World → Prop) : Eng.R Tryd.prog ⟨cal, S17_nx⟩ 91 S17_ann [] (Tryd.f17.body.getD .skip) (bodyQ Tryd.prog #[] R) (argE [(.pointer s_), (.int .i64 ahead)]) w = S17 s_ ahead w R := by kernel_rfl
/-- A call of '(*carfax/sipp.search).run', by its condition. -/
theorem S17_calls {s_ : Option Addr} {ahead : Int} {w : World} {R : Value → World → Prop} (hS : S17 s_ ahead w R) : Ret Tryd.prog 17 [(.pointer s_), (.int .i64 ahead)] w R :=
  R_calls (C := ⟨cal, S17_nx⟩) cal_ok follows Tryd.func17 (c := Tryd.f17.body.getD .skip) (res := #[]) (n := 91) (by kernel_rfl) (by kernel_rfl) (by kernel_rfl) (by kernel_rfl) ((S17_eq s_ ahead w R).mpr hS)

def S18_ann (p : List Nat) : Option LA := match p with
  | [0, 1, 0, 1, 1] => some ⟨[13, 14], [(5, .one (.int .i64)), (15, .one (.int .i64))]⟩
  | _ => none

def S18_nx (t : Nat) : Option (TypeId × TypeId) := none

def S18_k2 (first : Int) (x : Addr) (t13_a : Option Addr) (t13_l : Nat) (t13_c : Nat) (t14 : Int) (t15 : Int) (t26 : Bool) (w : World) (R : Value → World → Prop) (B1 : (Int) × (Int) × Unit → World → Prop) : Prop :=
  cond t26 (
    ∃ (t28 : Int),
    w.cell? (x.add 1) = some (.int .i64 t28) ∧
    B1 (t28, (IntKind.i64.wrap (t15 + 1)), ()) w
  ) (
    B1 (first, (IntKind.i64.wrap (t15 + 1)), ()) w
  )

def S18_k1 (first : Int) (t13_a : Option Addr) (t13_l : Nat) (t13_c : Nat) (t14 : Int) (t15 : Int) (w : World) (R : Value → World → Prop) (B1 : (Int) × (Int) × Unit → World → Prop) : Prop :=
  ∃ (t17 : Addr),
  t13_a = some t17 ∧
  0 ≤ (t15 : Int) ∧
  (t15 : Int) < ((t13_l : Nat) : Int) ∧
  ∃ (t18_0 : Int),
  w.cell? (t17.add (Int.toNat t15 * 3)) = some (.int .i64 t18_0) ∧
  ∃ (t18_1 : Int),
  w.cell? ((t17.add (Int.toNat t15 * 3)).add 1) = some (.int .i64 t18_1) ∧
  ∃ (t18_2 : Int),
  w.cell? ((t17.add (Int.toNat t15 * 3)).add 2) = some (.int .i64 t18_2) ∧
  (∃ u, (w.alloc (.cells ⟨[(.int .i64 0), (.int .i64 0), (.int .i64 0)]⟩ 58)).cell? ⟨w.heap.size, 0, none⟩ = some u) ∧
  (w.alloc (.cells ⟨[(.int .i64 0), (.int .i64 0), (.int .i64 0)]⟩ 58)).frozen? ⟨w.heap.size, 0, none⟩ = false ∧
  (∃ u, ((w.alloc (.cells ⟨[(.int .i64 0), (.int .i64 0), (.int .i64 0)]⟩ 58)).setCell ⟨w.heap.size, 0, none⟩ (.int .i64 t18_0)).cell? ⟨w.heap.size, 1, none⟩ = some u) ∧
  ((w.alloc (.cells ⟨[(.int .i64 0), (.int .i64 0), (.int .i64 0)]⟩ 58)).setCell ⟨w.heap.size, 0, none⟩ (.int .i64 t18_0)).frozen? ⟨w.heap.size, 1, none⟩ = false ∧
  (∃ u, (((w.alloc (.cells ⟨[(.int .i64 0), (.int .i64 0), (.int .i64 0)]⟩ 58)).setCell ⟨w.heap.size, 0, none⟩ (.int .i64 t18_0)).setCell ⟨w.heap.size, 1, none⟩ (.int .i64 t18_1)).cell? ⟨w.heap.size, 2, none⟩ = some u) ∧
  (((w.alloc (.cells ⟨[(.int .i64 0), (.int .i64 0), (.int .i64 0)]⟩ 58)).setCell ⟨w.heap.size, 0, none⟩ (.int .i64 t18_0)).setCell ⟨w.heap.size, 1, none⟩ (.int .i64 t18_1)).frozen? ⟨w.heap.size, 2, none⟩ = false ∧
  cond (decide ((first : Int) < 0)) (
    S18_k2 first ⟨w.heap.size, 0, none⟩ t13_a t13_l t13_c t14 t15 true ((((w.alloc (.cells ⟨[(.int .i64 0), (.int .i64 0), (.int .i64 0)]⟩ 58)).setCell ⟨w.heap.size, 0, none⟩ (.int .i64 t18_0)).setCell ⟨w.heap.size, 1, none⟩ (.int .i64 t18_1)).setCell ⟨w.heap.size, 2, none⟩ (.int .i64 t18_2)) R B1
  ) (
    ∃ (t23 : Int),
    ((((w.alloc (.cells ⟨[(.int .i64 0), (.int .i64 0), (.int .i64 0)]⟩ 58)).setCell ⟨w.heap.size, 0, none⟩ (.int .i64 t18_0)).setCell ⟨w.heap.size, 1, none⟩ (.int .i64 t18_1)).setCell ⟨w.heap.size, 2, none⟩ (.int .i64 t18_2)).cell? ⟨w.heap.size, 1, none⟩ = some (.int .i64 t23) ∧
    S18_k2 first ⟨w.heap.size, 0, none⟩ t13_a t13_l t13_c t14 t15 (decide ((t23 : Int) < first)) ((((w.alloc (.cells ⟨[(.int .i64 0), (.int .i64 0), (.int .i64 0)]⟩ 58)).setCell ⟨w.heap.size, 0, none⟩ (.int .i64 t18_0)).setCell ⟨w.heap.size, 1, none⟩ (.int .i64 t18_1)).setCell ⟨w.heap.size, 2, none⟩ (.int .i64 t18_2)) R B1
  )

def S18_L0 (first : Int) (t13_a : Option Addr) (t13_l : Nat) (t13_c : Nat) (t14 : Int) (t15 : Int) (w : World) (R : Value → World → Prop) (B1 : (Int) × (Int) × Unit → World → Prop) : Prop :=
  cond (decide ((t15 : Int) < t14)) (
    S18_k1 first t13_a t13_l t13_c t14 t15 w R B1
  ) (
    R (.int .i64 first) w
  )

def S18 (s_ : Option Addr) (cell : Int) (w : World) (R : Value → World → Prop) : Prop :=
  ∃ (t9 : Addr),
  s_ = some t9 ∧
  ∃ (t11 : Option Nat),
  w.cell? (t9.add 7) = some (.map t11) ∧
  ∃ (t13_a : Option Addr) (t13_l : Nat) (t13_c : Nat) (w_ : World),
  (Instr.lookup 73 (.map t11) (.int .i64 cell) false).run Tryd.prog w = .ok (.slice t13_a t13_l t13_c) w_ ∧
  ∃ (I : (Int) × (Int) × Unit → World → Prop) (μ : (Int) × (Int) × Unit → World → Nat),
  I ((-1), 0, ()) w_ ∧
  ∀ (J : Env) (s : (Int) × (Int) × Unit) (w' : World), I s w' →
    S18_L0 s.1 t13_a t13_l t13_c ((t13_l : Nat) : Int) s.2.1 w' R (fun s' w'' => I s' w'' ∧ μ s' w'' < μ s w')

theorem S18_eq (s_ : Option Addr) (cell : Int) (w : World) (R : Value → World → Prop) : Eng.R Tryd.prog ⟨cal, S18_nx⟩ 31 S18_ann [] (Tryd.f18.body.getD .skip) (bodyQ Tryd.prog #[.tmp 4] R) (argE [(.pointer s_), (.int .i64 cell)]) w = S18 s_ cell w R := by kernel_rfl
/-- A call of '(*carfax/sipp.search).soon', by its condition. -/
theorem S18_calls {s_ : Option Addr} {cell : Int} {w : World} {R : Value → World → Prop} (hS : S18 s_ cell w R) : Ret Tryd.prog 18 [(.pointer s_), (.int .i64 cell)] w R :=
  R_calls (C := ⟨cal, S18_nx⟩) cal_ok follows Tryd.func18 (c := Tryd.f18.body.getD .skip) (res := #[.tmp 4]) (n := 31) (by kernel_rfl) (by kernel_rfl) (by kernel_rfl) (by kernel_rfl) ((S18_eq s_ cell w R).mpr hS)

def S19_ann (p : List Nat) : Option LA := match p with
  | [0, 1, 0, 1, 1] => some ⟨[2, 3, 28, 29], [(30, .one (.int .i64))]⟩
  | _ => none

def S19_nx (t : Nat) : Option (TypeId × TypeId) := none

def S19_k4 (t2 : Addr) (x : Addr) (w_ : Addr) (t28_a : Option Addr) (t28_l : Nat) (t28_c : Nat) (t29 : Int) (t30 : Int) (t45 : Bool) (w : World) (R : Value → World → Prop) (B1 : (Int) × Unit → World → Prop) : Prop :=
  cond t45 (
    ∃ (t47 : Int),
    w.cell? (w_.add 1) = some (.int .i64 t47) ∧
    (∃ u, w.cell? (x.add 2) = some u) ∧
    w.frozen? (x.add 2) = false ∧
    B1 ((IntKind.i64.wrap (t30 + 1)), ()) (w.setCell (x.add 2) (.int .i64 t47))
  ) (
    B1 ((IntKind.i64.wrap (t30 + 1)), ()) w
  )

def S19_k3 (t2 : Addr) (x : Addr) (t28_a : Option Addr) (t28_l : Nat) (t28_c : Nat) (t29 : Int) (t30 : Int) (w : World) (R : Value → World → Prop) (B1 : (Int) × Unit → World → Prop) : Prop :=
  ∃ (t32 : Addr),
  t28_a = some t32 ∧
  0 ≤ (t30 : Int) ∧
  (t30 : Int) < ((t28_l : Nat) : Int) ∧
  ∃ (t33_0 : Int),
  w.cell? (t32.add (Int.toNat t30 * 2)) = some (.int .i64 t33_0) ∧
  ∃ (t33_1 : Int),
  w.cell? ((t32.add (Int.toNat t30 * 2)).add 1) = some (.int .i64 t33_1) ∧
  (∃ u, (w.alloc (.cells ⟨[(.int .i64 0), (.int .i64 0)]⟩ 33)).cell? ⟨w.heap.size, 0, none⟩ = some u) ∧
  (w.alloc (.cells ⟨[(.int .i64 0), (.int .i64 0)]⟩ 33)).frozen? ⟨w.heap.size, 0, none⟩ = false ∧
  (∃ u, ((w.alloc (.cells ⟨[(.int .i64 0), (.int .i64 0)]⟩ 33)).setCell ⟨w.heap.size, 0, none⟩ (.int .i64 t33_0)).cell? ⟨w.heap.size, 1, none⟩ = some u) ∧
  ((w.alloc (.cells ⟨[(.int .i64 0), (.int .i64 0)]⟩ 33)).setCell ⟨w.heap.size, 0, none⟩ (.int .i64 t33_0)).frozen? ⟨w.heap.size, 1, none⟩ = false ∧
  ∃ (t35 : Int),
  (((w.alloc (.cells ⟨[(.int .i64 0), (.int .i64 0)]⟩ 33)).setCell ⟨w.heap.size, 0, none⟩ (.int .i64 t33_0)).setCell ⟨w.heap.size, 1, none⟩ (.int .i64 t33_1)).cell? ⟨w.heap.size, 0, none⟩ = some (.int .i64 t35) ∧
  ∃ (t37 : Int),
  (((w.alloc (.cells ⟨[(.int .i64 0), (.int .i64 0)]⟩ 33)).setCell ⟨w.heap.size, 0, none⟩ (.int .i64 t33_0)).setCell ⟨w.heap.size, 1, none⟩ (.int .i64 t33_1)).cell? (x.add 2) = some (.int .i64 t37) ∧
  cond (decide ((t35 : Int) ≤ t37)) (
    ∃ (t41 : Int),
    (((w.alloc (.cells ⟨[(.int .i64 0), (.int .i64 0)]⟩ 33)).setCell ⟨w.heap.size, 0, none⟩ (.int .i64 t33_0)).setCell ⟨w.heap.size, 1, none⟩ (.int .i64 t33_1)).cell? (x.add 2) = some (.int .i64 t41) ∧
    ∃ (t43 : Int),
    (((w.alloc (.cells ⟨[(.int .i64 0), (.int .i64 0)]⟩ 33)).setCell ⟨w.heap.size, 0, none⟩ (.int .i64 t33_0)).setCell ⟨w.heap.size, 1, none⟩ (.int .i64 t33_1)).cell? ⟨w.heap.size, 1, none⟩ = some (.int .i64 t43) ∧
    S19_k4 t2 x ⟨w.heap.size, 0, none⟩ t28_a t28_l t28_c t29 t30 (decide ((t41 : Int) < t43)) (((w.alloc (.cells ⟨[(.int .i64 0), (.int .i64 0)]⟩ 33)).setCell ⟨w.heap.size, 0, none⟩ (.int .i64 t33_0)).setCell ⟨w.heap.size, 1, none⟩ (.int .i64 t33_1)) R B1
  ) (
    S19_k4 t2 x ⟨w.heap.size, 0, none⟩ t28_a t28_l t28_c t29 t30 false (((w.alloc (.cells ⟨[(.int .i64 0), (.int .i64 0)]⟩ 33)).setCell ⟨w.heap.size, 0, none⟩ (.int .i64 t33_0)).setCell ⟨w.heap.size, 1, none⟩ (.int .i64 t33_1)) R B1
  )

def S19_L2 (t2 : Addr) (x : Addr) (t28_a : Option Addr) (t28_l : Nat) (t28_c : Nat) (t29 : Int) (t30 : Int) (w : World) (R : Value → World → Prop) (B1 : (Int) × Unit → World → Prop) : Prop :=
  cond (decide ((t30 : Int) < t29)) (
    S19_k3 t2 x t28_a t28_l t28_c t29 t30 w R B1
  ) (
    ∃ (t50_0 : Int),
    w.cell? x = some (.int .i64 t50_0) ∧
    ∃ (t50_1 : Int),
    w.cell? (x.add 1) = some (.int .i64 t50_1) ∧
    ∃ (t50_2 : Int),
    w.cell? (x.add 2) = some (.int .i64 t50_2) ∧
    (∃ u, w.cell? t2 = some u) ∧
    w.frozen? t2 = false ∧
    (∃ u, (w.setCell t2 (.int .i64 t50_0)).cell? (t2.add 1) = some u) ∧
    (w.setCell t2 (.int .i64 t50_0)).frozen? (t2.add 1) = false ∧
    (∃ u, ((w.setCell t2 (.int .i64 t50_0)).setCell (t2.add 1) (.int .i64 t50_1)).cell? (t2.add 2) = some u) ∧
    ((w.setCell t2 (.int .i64 t50_0)).setCell (t2.add 1) (.int .i64 t50_1)).frozen? (t2.add 2) = false ∧
    ∃ (t2_0 : Int),
    (((w.setCell t2 (.int .i64 t50_0)).setCell (t2.add 1) (.int .i64 t50_1)).setCell (t2.add 2) (.int .i64 t50_2)).cell? t2 = some (.int .i64 t2_0) ∧
    ∃ (t2_1 : Int),
    (((w.setCell t2 (.int .i64 t50_0)).setCell (t2.add 1) (.int .i64 t50_1)).setCell (t2.add 2) (.int .i64 t50_2)).cell? (t2.add 1) = some (.int .i64 t2_1) ∧
    ∃ (t2_2 : Int),
    (((w.setCell t2 (.int .i64 t50_0)).setCell (t2.add 1) (.int .i64 t50_1)).setCell (t2.add 2) (.int .i64 t50_2)).cell? (t2.add 2) = some (.int .i64 t2_2) ∧
    R (.agg ⟨[(.int .i64 t2_0), (.int .i64 t2_1), (.int .i64 t2_2)]⟩) (((w.setCell t2 (.int .i64 t50_0)).setCell (t2.add 1) (.int .i64 t50_1)).setCell (t2.add 2) (.int .i64 t50_2))
  )

def S19_k1 (t2 : Addr) (x : Addr) (t28_a : Option Addr) (t28_l : Nat) (t28_c : Nat) (t29 : Int) (t30 : Int) (w : World) (R : Value → World → Prop) : Prop :=
  ∃ (I : (Int) × Unit → World → Prop) (μ : (Int) × Unit → World → Nat),
  I (t30, ()) w ∧
  ∀ (J : Env) (s : (Int) × Unit) (w' : World), I s w' →
    S19_L2 t2 x t28_a t28_l t28_c t29 s.1 w' R (fun s' w'' => I s' w'' ∧ μ s' w'' < μ s w')

def S19_k0 (s_ : Option Addr) (t2 : Addr) (x : Addr) (w : World) (R : Value → World → Prop) : Prop :=
  ∃ (t21 : Addr),
  s_ = some t21 ∧
  ∃ (t25 : Addr),
  s_ = some t25 ∧
  ∃ (t23 : Value),
  w.drew.cell? (t21.add 2) = some t23 ∧
  ∃ (t27 : Int),
  w.drew.cell? (t25.add 4) = some (.int .i64 t27) ∧
  AnyCall Tryd.prog ⟨cal, S19_nx⟩ t23 [(.int .i64 t27)] w.drew fun e w_ =>
    ∃ (t28_a : Option Addr) (t28_l : Nat) (t28_c : Nat),
    e = .returned (.slice t28_a t28_l t28_c) ∧
    S19_k1 t2 x t28_a t28_l t28_c ((t28_l : Nat) : Int) 0 w_ R

def S19 (s_ : Option Addr) (w : World) (R : Value → World → Prop) : Prop :=
  ∃ (t7 : Addr),
  s_ = some t7 ∧
  ∃ (t11 : Addr),
  s_ = some t11 ∧
  ∃ (t15 : Addr),
  s_ = some t15 ∧
  ∃ (t17 : Int),
  (w.alloc (.cells ⟨[(.int .i64 0), (.int .i64 0), (.int .i64 0)]⟩ 58)).drew.cell? (t15.add 5) = some (.int .i64 t17) ∧
  ∃ (t9 : Int),
  (w.alloc (.cells ⟨[(.int .i64 0), (.int .i64 0), (.int .i64 0)]⟩ 58)).drew.cell? (t7.add 4) = some (.int .i64 t9) ∧
  ∃ (t13 : Int),
  (w.alloc (.cells ⟨[(.int .i64 0), (.int .i64 0), (.int .i64 0)]⟩ 58)).drew.cell? (t11.add 5) = some (.int .i64 t13) ∧
  (∃ u, ((w.alloc (.cells ⟨[(.int .i64 0), (.int .i64 0), (.int .i64 0)]⟩ 58)).drew.alloc (.cells ⟨[(.int .i64 0), (.int .i64 0), (.int .i64 0)]⟩ 58)).cell? ⟨(w.alloc (.cells ⟨[(.int .i64 0), (.int .i64 0), (.int .i64 0)]⟩ 58)).drew.heap.size, 0, none⟩ = some u) ∧
  ((w.alloc (.cells ⟨[(.int .i64 0), (.int .i64 0), (.int .i64 0)]⟩ 58)).drew.alloc (.cells ⟨[(.int .i64 0), (.int .i64 0), (.int .i64 0)]⟩ 58)).frozen? ⟨(w.alloc (.cells ⟨[(.int .i64 0), (.int .i64 0), (.int .i64 0)]⟩ 58)).drew.heap.size, 0, none⟩ = false ∧
  (∃ u, (((w.alloc (.cells ⟨[(.int .i64 0), (.int .i64 0), (.int .i64 0)]⟩ 58)).drew.alloc (.cells ⟨[(.int .i64 0), (.int .i64 0), (.int .i64 0)]⟩ 58)).setCell ⟨(w.alloc (.cells ⟨[(.int .i64 0), (.int .i64 0), (.int .i64 0)]⟩ 58)).drew.heap.size, 0, none⟩ (.int .i64 t9)).cell? ⟨(w.alloc (.cells ⟨[(.int .i64 0), (.int .i64 0), (.int .i64 0)]⟩ 58)).drew.heap.size, 1, none⟩ = some u) ∧
  (((w.alloc (.cells ⟨[(.int .i64 0), (.int .i64 0), (.int .i64 0)]⟩ 58)).drew.alloc (.cells ⟨[(.int .i64 0), (.int .i64 0), (.int .i64 0)]⟩ 58)).setCell ⟨(w.alloc (.cells ⟨[(.int .i64 0), (.int .i64 0), (.int .i64 0)]⟩ 58)).drew.heap.size, 0, none⟩ (.int .i64 t9)).frozen? ⟨(w.alloc (.cells ⟨[(.int .i64 0), (.int .i64 0), (.int .i64 0)]⟩ 58)).drew.heap.size, 1, none⟩ = false ∧
  (∃ u, ((((w.alloc (.cells ⟨[(.int .i64 0), (.int .i64 0), (.int .i64 0)]⟩ 58)).drew.alloc (.cells ⟨[(.int .i64 0), (.int .i64 0), (.int .i64 0)]⟩ 58)).setCell ⟨(w.alloc (.cells ⟨[(.int .i64 0), (.int .i64 0), (.int .i64 0)]⟩ 58)).drew.heap.size, 0, none⟩ (.int .i64 t9)).setCell ⟨(w.alloc (.cells ⟨[(.int .i64 0), (.int .i64 0), (.int .i64 0)]⟩ 58)).drew.heap.size, 1, none⟩ (.int .i64 t13)).cell? ⟨(w.alloc (.cells ⟨[(.int .i64 0), (.int .i64 0), (.int .i64 0)]⟩ 58)).drew.heap.size, 2, none⟩ = some u) ∧
  ((((w.alloc (.cells ⟨[(.int .i64 0), (.int .i64 0), (.int .i64 0)]⟩ 58)).drew.alloc (.cells ⟨[(.int .i64 0), (.int .i64 0), (.int .i64 0)]⟩ 58)).setCell ⟨(w.alloc (.cells ⟨[(.int .i64 0), (.int .i64 0), (.int .i64 0)]⟩ 58)).drew.heap.size, 0, none⟩ (.int .i64 t9)).setCell ⟨(w.alloc (.cells ⟨[(.int .i64 0), (.int .i64 0), (.int .i64 0)]⟩ 58)).drew.heap.size, 1, none⟩ (.int .i64 t13)).frozen? ⟨(w.alloc (.cells ⟨[(.int .i64 0), (.int .i64 0), (.int .i64 0)]⟩ 58)).drew.heap.size, 2, none⟩ = false ∧
  S19_k0 s_ ⟨w.heap.size, 0, none⟩ ⟨(w.alloc (.cells ⟨[(.int .i64 0), (.int .i64 0), (.int .i64 0)]⟩ 58)).drew.heap.size, 0, none⟩ (((((w.alloc (.cells ⟨[(.int .i64 0), (.int .i64 0), (.int .i64 0)]⟩ 58)).drew.alloc (.cells ⟨[(.int .i64 0), (.int .i64 0), (.int .i64 0)]⟩ 58)).setCell ⟨(w.alloc (.cells ⟨[(.int .i64 0), (.int .i64 0), (.int .i64 0)]⟩ 58)).drew.heap.size, 0, none⟩ (.int .i64 t9)).setCell ⟨(w.alloc (.cells ⟨[(.int .i64 0), (.int .i64 0), (.int .i64 0)]⟩ 58)).drew.heap.size, 1, none⟩ (.int .i64 t13)).setCell ⟨(w.alloc (.cells ⟨[(.int .i64 0), (.int .i64 0), (.int .i64 0)]⟩ 58)).drew.heap.size, 2, none⟩ (.int .i64 (IntKind.i64.wrap (t17 + 1)))) R

theorem S19_eq (s_ : Option Addr) (w : World) (R : Value → World → Prop) : Eng.R Tryd.prog ⟨cal, S19_nx⟩ 51 S19_ann [] (Tryd.f19.body.getD .skip) (bodyQ Tryd.prog #[.cell 2 58] R) (argE [(.pointer s_)]) w = S19 s_ w R := by kernel_rfl
/-- A call of '(*carfax/sipp.search).first', by its condition. -/
theorem S19_calls {s_ : Option Addr} {w : World} {R : Value → World → Prop} (hS : S19 s_ w R) : Ret Tryd.prog 19 [(.pointer s_)] w R :=
  R_calls (C := ⟨cal, S19_nx⟩) cal_ok follows Tryd.func19 (c := Tryd.f19.body.getD .skip) (res := #[.cell 2 58]) (n := 51) (by kernel_rfl) (by kernel_rfl) (by kernel_rfl) (by kernel_rfl) ((S19_eq s_ w R).mpr hS)

def S20_ann (p : List Nat) : Option LA := match p with
  | [0, 1, 0, 1] => some ⟨[0, 2, 15, 16], [(17, .one (.int .i64))]⟩
  | _ => none

def S20_nx (t : Nat) : Option (TypeId × TypeId) := none

def S20_k2 (s_ : Option Addr) (moment : Int) (c : Int) (t15_a : Option Addr) (t15_l : Nat) (t15_c : Nat) (t16 : Int) (t17 : Int) (t42 : Bool) (w : World) (R : Value → World → Prop) (B1 : (Int) × Unit → World → Prop) : Prop :=
  cond t42 (
    R (.int .i64 c) w
  ) (
    B1 ((IntKind.i64.wrap (t17 + 1)), ()) w
  )

def S20_k1 (s_ : Option Addr) (moment : Int) (t15_a : Option Addr) (t15_l : Nat) (t15_c : Nat) (t16 : Int) (t17 : Int) (w : World) (R : Value → World → Prop) (B1 : (Int) × Unit → World → Prop) : Prop :=
  ∃ (t19 : Addr),
  t15_a = some t19 ∧
  0 ≤ (t17 : Int) ∧
  (t17 : Int) < ((t15_l : Nat) : Int) ∧
  ∃ (t20 : Int),
  w.cell? (t19.add (Int.toNat t17 * 1)) = some (.int .i64 t20) ∧
  ∃ (t22 : Addr),
  s_ = some t22 ∧
  ∃ (t24_a : Option Addr) (t24_l : Nat) (t24_c : Nat),
  w.cell? (t22.add 1) = some (.slice t24_a t24_l t24_c) ∧
  ∃ (t26 : Addr),
  t24_a = some t26 ∧
  0 ≤ (t20 : Int) ∧
  (t20 : Int) < ((t24_l : Nat) : Int) ∧
  ∃ (t27 : Bool),
  w.cell? (t26.add (Int.toNat t20 * 1)) = some (.bool t27) ∧
  cond t27 (
    Calls Tryd.prog 39 ⟨[(.pointer s_), (.int .i64 t20), (.int .i64 (IntKind.i64.wrap (moment - 1)))]⟩ w fun e w_ =>
      ∃ (t41 : Bool),
      e = .returned (.bool t41) ∧
      S20_k2 s_ moment t20 t15_a t15_l t15_c t16 t17 t41 w_ R B1
  ) (
    ∃ (t31 : Addr),
    s_ = some t31 ∧
    ∃ (t33 : Int),
    w.cell? (t31.add 4) = some (.int .i64 t33) ∧
    cond (decide ((t20 : Int) = t33)) (
      Calls Tryd.prog 39 ⟨[(.pointer s_), (.int .i64 t20), (.int .i64 (IntKind.i64.wrap (moment - 1)))]⟩ w fun e w__1 =>
        ∃ (t41_1 : Bool),
        e = .returned (.bool t41_1) ∧
        S20_k2 s_ moment t20 t15_a t15_l t15_c t16 t17 t41_1 w__1 R B1
    ) (
      S20_k2 s_ moment t20 t15_a t15_l t15_c t16 t17 false w R B1
    )
  )

def S20_L0 (s_ : Option Addr) (moment : Int) (t15_a : Option Addr) (t15_l : Nat) (t15_c : Nat) (t16 : Int) (t17 : Int) (w : World) (R : Value → World → Prop) (B1 : (Int) × Unit → World → Prop) : Prop :=
  cond (decide ((t17 : Int) < t16)) (
    S20_k1 s_ moment t15_a t15_l t15_c t16 t17 w R B1
  ) (
    R (.int .i64 (-1)) w
  )

def S20 (s_ : Option Addr) (cell : Int) (moment : Int) (w : World) (R : Value → World → Prop) : Prop :=
  ∃ (t10 : Addr),
  s_ = some t10 ∧
  ∃ (t12_a : Option Addr) (t12_l : Nat) (t12_c : Nat),
  w.cell? t10 = some (.slice t12_a t12_l t12_c) ∧
  ∃ (t14 : Addr),
  t12_a = some t14 ∧
  0 ≤ (cell : Int) ∧
  (cell : Int) < ((t12_l : Nat) : Int) ∧
  ∃ (t15_a : Option Addr) (t15_l : Nat) (t15_c : Nat),
  w.cell? (t14.add (Int.toNat cell * 1)) = some (.slice t15_a t15_l t15_c) ∧
  ∃ (I : (Int) × Unit → World → Prop) (μ : (Int) × Unit → World → Nat),
  I (0, ()) w ∧
  ∀ (J : Env) (s : (Int) × Unit) (w' : World), I s w' →
    S20_L0 s_ moment t15_a t15_l t15_c ((t15_l : Nat) : Int) s.1 w' R (fun s' w'' => I s' w'' ∧ μ s' w'' < μ s w')

theorem S20_eq (s_ : Option Addr) (cell : Int) (moment : Int) (w : World) (R : Value → World → Prop) : Eng.R Tryd.prog ⟨cal, S20_nx⟩ 45 S20_ann [] (Tryd.f20.body.getD .skip) (bodyQ Tryd.prog #[.tmp 6] R) (argE [(.pointer s_), (.int .i64 cell), (.int .i64 moment)]) w = S20 s_ cell moment w R := by kernel_rfl
/-- A call of '(*carfax/sipp.search).came', by its condition. -/
theorem S20_calls {s_ : Option Addr} {cell : Int} {moment : Int} {w : World} {R : Value → World → Prop} (hS : S20 s_ cell moment w R) : Ret Tryd.prog 20 [(.pointer s_), (.int .i64 cell), (.int .i64 moment)] w R :=
  R_calls (C := ⟨cal, S20_nx⟩) cal_ok follows Tryd.func20 (c := Tryd.f20.body.getD .skip) (res := #[.tmp 6]) (n := 45) (by kernel_rfl) (by kernel_rfl) (by kernel_rfl) (by kernel_rfl) ((S20_eq s_ cell moment w R).mpr hS)

def S21_ann (p : List Nat) : Option LA := match p with
  | [0, 1] => some ⟨[0], [(2, .one (.int .i64)), (3, .one (.int .i64))]⟩
  | _ => none

def S21_nx (t : Nat) : Option (TypeId × TypeId) := none

def S21_k2 (s_a : Option Addr) (s_l : Nat) (s_c : Nat) (i : Int) (j : Int) (w : World) (R : Value → World → Prop) (B1 : (Int) × (Int) × Unit → World → Prop) : Prop :=
  B1 ((IntKind.i64.wrap (i + 1)), (IntKind.i64.wrap (j - 1)), ()) w

def S21_k1 (s_a : Option Addr) (s_l : Nat) (s_c : Nat) (i : Int) (j : Int) (w : World) (R : Value → World → Prop) (B1 : (Int) × (Int) × Unit → World → Prop) : Prop :=
  ∃ (t20 : Addr),
  s_a = some t20 ∧
  0 ≤ (j : Int) ∧
  (j : Int) < ((s_l : Nat) : Int) ∧
  ∃ (t21_0 : Int),
  w.drew.cell? (t20.add (Int.toNat j * 2)) = some (.int .i64 t21_0) ∧
  ∃ (t21_1 : Int),
  w.drew.cell? ((t20.add (Int.toNat j * 2)).add 1) = some (.int .i64 t21_1) ∧
  ∃ (t24 : Addr),
  s_a = some t24 ∧
  0 ≤ (i : Int) ∧
  (i : Int) < ((s_l : Nat) : Int) ∧
  ∃ (t25_0 : Int),
  w.drew.cell? (t24.add (Int.toNat i * 2)) = some (.int .i64 t25_0) ∧
  ∃ (t25_1 : Int),
  w.drew.cell? ((t24.add (Int.toNat i * 2)).add 1) = some (.int .i64 t25_1) ∧
  ∃ (t26 : Addr),
  s_a = some t26 ∧
  0 ≤ (i : Int) ∧
  (i : Int) < ((s_l : Nat) : Int) ∧
  (∃ u, w.drew.cell? (t26.add (Int.toNat i * 2)) = some u) ∧
  w.drew.frozen? (t26.add (Int.toNat i * 2)) = false ∧
  (∃ u, (w.drew.setCell (t26.add (Int.toNat i * 2)) (.int .i64 t21_0)).cell? ((t26.add (Int.toNat i * 2)).add 1) = some u) ∧
  (w.drew.setCell (t26.add (Int.toNat i * 2)) (.int .i64 t21_0)).frozen? ((t26.add (Int.toNat i * 2)).add 1) = false ∧
  ∃ (t27 : Addr),
  s_a = some t27 ∧
  0 ≤ (j : Int) ∧
  (j : Int) < ((s_l : Nat) : Int) ∧
  (∃ u, ((w.drew.setCell (t26.add (Int.toNat i * 2)) (.int .i64 t21_0)).setCell ((t26.add (Int.toNat i * 2)).add 1) (.int .i64 t21_1)).cell? (t27.add (Int.toNat j * 2)) = some u) ∧
  ((w.drew.setCell (t26.add (Int.toNat i * 2)) (.int .i64 t21_0)).setCell ((t26.add (Int.toNat i * 2)).add 1) (.int .i64 t21_1)).frozen? (t27.add (Int.toNat j * 2)) = false ∧
  (∃ u, (((w.drew.setCell (t26.add (Int.toNat i * 2)) (.int .i64 t21_0)).setCell ((t26.add (Int.toNat i * 2)).add 1) (.int .i64 t21_1)).setCell (t27.add (Int.toNat j * 2)) (.int .i64 t25_0)).cell? ((t27.add (Int.toNat j * 2)).add 1) = some u) ∧
  (((w.drew.setCell (t26.add (Int.toNat i * 2)) (.int .i64 t21_0)).setCell ((t26.add (Int.toNat i * 2)).add 1) (.int .i64 t21_1)).setCell (t27.add (Int.toNat j * 2)) (.int .i64 t25_0)).frozen? ((t27.add (Int.toNat j * 2)).add 1) = false ∧
  S21_k2 s_a s_l s_c i j ((((w.drew.setCell (t26.add (Int.toNat i * 2)) (.int .i64 t21_0)).setCell ((t26.add (Int.toNat i * 2)).add 1) (.int .i64 t21_1)).setCell (t27.add (Int.toNat j * 2)) (.int .i64 t25_0)).setCell ((t27.add (Int.toNat j * 2)).add 1) (.int .i64 t25_1)) R B1

def S21_L0 (s_a : Option Addr) (s_l : Nat) (s_c : Nat) (i : Int) (j : Int) (w : World) (R : Value → World → Prop) (B1 : (Int) × (Int) × Unit → World → Prop) : Prop :=
  cond (decide ((i : Int) < j)) (
    S21_k1 s_a s_l s_c i j w R B1
  ) (
    R (.tuple ⟨[]⟩) w
  )

def S21 (s_a : Option Addr) (s_l : Nat) (s_c : Nat) (w : World) (R : Value → World → Prop) : Prop :=
  ∃ (I : (Int) × (Int) × Unit → World → Prop) (μ : (Int) × (Int) × Unit → World → Nat),
  I (0, (IntKind.i64.wrap (((s_l : Nat) : Int) - 1)), ()) w ∧
  ∀ (J : Env) (s : (Int) × (Int) × Unit) (w' : World), I s w' →
    S21_L0 s_a s_l s_c s.1 s.2.1 w' R (fun s' w'' => I s' w'' ∧ μ s' w'' < μ s w')

theorem S21_eq (s_a : Option Addr) (s_l : Nat) (s_c : Nat) (w : World) (R : Value → World → Prop) : Eng.R Tryd.prog ⟨cal, S21_nx⟩ 28 S21_ann [] (Tryd.f21.body.getD .skip) (bodyQ Tryd.prog #[] R) (argE [(.slice s_a s_l s_c)]) w = S21 s_a s_l s_c w R := by kernel_rfl
/-- A call of 'slices.Reverse[[]carfax/api.Step,carfax/api.Step]', by its condition. -/
theorem S21_calls {s_a : Option Addr} {s_l : Nat} {s_c : Nat} {w : World} {R : Value → World → Prop} (hS : S21 s_a s_l s_c w R) : Ret Tryd.prog 21 [(.slice s_a s_l s_c)] w R :=
  R_calls (C := ⟨cal, S21_nx⟩) cal_ok follows Tryd.func21 (c := Tryd.f21.body.getD .skip) (res := #[]) (n := 28) (by kernel_rfl) (by kernel_rfl) (by kernel_rfl) (by kernel_rfl) ((S21_eq s_a s_l s_c w R).mpr hS)

def S23_ann (p : List Nat) : Option LA := match p with
  | [0, 1, 0, 1, 1] => some ⟨[0, 27], [(28, .one (.int .i64))]⟩
  | _ => none

def S23_nx (t : Nat) : Option (TypeId × TypeId) := none

def S23_k3 (row : ByteArray) (t27 : Int) (t28 : Int) (w : World) (R : Value → World → Prop) (B1 : (Int) × Unit → World → Prop) : Prop :=
  ∃ (t33 : UInt8),
  0 ≤ (t28 : Int) ∧
  (row)[Int.toNat t28]? = some t33 ∧
  Calls Tryd.prog 41 ⟨[(.int .u8 (t33.toNat : Int))]⟩ w fun e w_ =>
    ∃ (t34 : Int),
    e = .returned (.int .i64 t34) ∧
    cond (decide ((t34 : Int) = 0)) (
      R (.bool false) w_
    ) (
      B1 ((IntKind.i64.wrap (t28 + 1)), ()) w_
    )

def S23_L2 (row : ByteArray) (t27 : Int) (t28 : Int) (w : World) (R : Value → World → Prop) (B1 : (Int) × Unit → World → Prop) : Prop :=
  cond (decide ((t28 : Int) < t27)) (
    S23_k3 row t27 t28 w R B1
  ) (
    R (.bool true) w
  )

def S23_k1 (row : ByteArray) (w : World) (R : Value → World → Prop) : Prop :=
  ∃ (I : (Int) × Unit → World → Prop) (μ : (Int) × Unit → World → Nat),
  I (0, ()) w ∧
  ∀ (J : Env) (s : (Int) × Unit) (w' : World), I s w' →
    S23_L2 row ((ByteArray.size row : Nat) : Int) s.1 w' R (fun s' w'' => I s' w'' ∧ μ s' w'' < μ s w')

def S23_k0 (row : ByteArray) (t25 : Bool) (w : World) (R : Value → World → Prop) : Prop :=
  cond t25 (
    R (.bool false) w
  ) (
    S23_k1 row w R
  )

def S23 (row : ByteArray) (first : ByteArray) (y : Int) (w : World) (R : Value → World → Prop) : Prop :=
  cond (decide ((16 : Int) ≤ y)) (
    S23_k0 row true w R
  ) (
    cond (decide ((row : ByteArray) = (⟨#[]⟩ : ByteArray))) (
      S23_k0 row true w R
    ) (
      cond (decide ((16 : Int) < ((ByteArray.size row : Nat) : Int))) (
        S23_k0 row true w R
      ) (
        S23_k0 row (!decide ((((ByteArray.size row : Nat) : Int) : Int) = ((ByteArray.size first : Nat) : Int))) w R
      )
    )
  )

theorem S23_eq (row : ByteArray) (first : ByteArray) (y : Int) (w : World) (R : Value → World → Prop) : Eng.R Tryd.prog ⟨cal, S23_nx⟩ 37 S23_ann [] (Tryd.f23.body.getD .skip) (bodyQ Tryd.prog #[.tmp 6] R) (argE [(.string row), (.string first), (.int .i64 y)]) w = S23 row first y w R := by kernel_rfl
/-- A call of 'carfax/floor.may', by its condition. -/
theorem S23_calls {row : ByteArray} {first : ByteArray} {y : Int} {w : World} {R : Value → World → Prop} (hS : S23 row first y w R) : Ret Tryd.prog 23 [(.string row), (.string first), (.int .i64 y)] w R :=
  R_calls (C := ⟨cal, S23_nx⟩) cal_ok follows Tryd.func23 (c := Tryd.f23.body.getD .skip) (res := #[.tmp 6]) (n := 37) (by kernel_rfl) (by kernel_rfl) (by kernel_rfl) (by kernel_rfl) ((S23_eq row first y w R).mpr hS)

def S25_ann (p : List Nat) : Option LA := match p with
  | [0, 1, 0, 1, 1] => some ⟨[1, 42], [(43, .one (.int .i64))]⟩
  | [0, 1, 0, 1, 1, 1, 1, 1] => some ⟨[1, 65, 66], [(67, .one (.int .i64))]⟩
  | [0, 1, 0, 1, 1, 0, 0, 1, 1, 0, 0, 1, 0, 1, 1, 1, 1, 1] => some ⟨[1, 65, 66, 67, 73, 74], [(8, .one .bool), (75, .one (.int .i64))]⟩
  | _ => none

def S25_nx (t : Nat) : Option (TypeId × TypeId) := none

def S25_k3 (f : Addr) (t42 : Int) (t43 : Int) (w : World) (R : Value → World → Prop) (B1 : (Int) × Unit → World → Prop) : Prop :=
  ∃ (t47 : ByteArray),
  w.cell? (f.add 2) = some (.string t47) ∧
  ∃ (t49 : UInt8),
  0 ≤ (t43 : Int) ∧
  (t47)[Int.toNat t43]? = some t49 ∧
  Calls Tryd.prog 41 ⟨[(.int .u8 (t49.toNat : Int))]⟩ w fun e w_ =>
    ∃ (t50 : Int),
    e = .returned (.int .i64 t50) ∧
    cond (decide ((t50 : Int) = 0)) (
      R (.bool false) w_
    ) (
      B1 ((IntKind.i64.wrap (t43 + 1)), ()) w_
    )

def S25_k10 (f : Addr) (by_ : Bool) (t65_a : Option Addr) (t65_l : Nat) (t65_c : Nat) (t66 : Int) (t67 : Int) (t73_a : Option Addr) (t73_l : Nat) (t73_c : Nat) (t74 : Int) (t75 : Int) (w : World) (R : Value → World → Prop) (B1 : (Int) × Unit → World → Prop) (B2 : (Bool) × (Int) × Unit → World → Prop) : Prop :=
  ∃ (t77 : Addr),
  t73_a = some t77 ∧
  0 ≤ (t75 : Int) ∧
  (t75 : Int) < ((t73_l : Nat) : Int) ∧
  ∃ (t78 : Int),
  w.cell? (t77.add (Int.toNat t75 * 1)) = some (.int .i64 t78) ∧
  cond by_ (
    B2 (true, (IntKind.i64.wrap (t75 + 1)), ()) w
  ) (
    ∃ (t82 : ByteArray),
    w.cell? (f.add 2) = some (.string t82) ∧
    ∃ (t84 : UInt8),
    0 ≤ (t78 : Int) ∧
    (t82)[Int.toNat t78]? = some t84 ∧
    Calls Tryd.prog 41 ⟨[(.int .u8 (t84.toNat : Int))]⟩ w fun e w_ =>
      ∃ (t85 : Int),
      e = .returned (.int .i64 t85) ∧
      B2 ((decide ((t85 : Int) = 2)), (IntKind.i64.wrap (t75 + 1)), ()) w_
  )

def S25_k11 (f : Addr) (by_ : Bool) (t65_a : Option Addr) (t65_l : Nat) (t65_c : Nat) (t66 : Int) (t67 : Int) (w : World) (R : Value → World → Prop) (B1 : (Int) × Unit → World → Prop) : Prop :=
  cond (!by_) (
    R (.bool false) w
  ) (
    B1 ((IntKind.i64.wrap (t67 + 1)), ()) w
  )

def S25_L9 (f : Addr) (by_ : Bool) (t65_a : Option Addr) (t65_l : Nat) (t65_c : Nat) (t66 : Int) (t67 : Int) (t73_a : Option Addr) (t73_l : Nat) (t73_c : Nat) (t74 : Int) (t75 : Int) (w : World) (R : Value → World → Prop) (B1 : (Int) × Unit → World → Prop) (B2 : (Bool) × (Int) × Unit → World → Prop) : Prop :=
  cond (decide ((t75 : Int) < t74)) (
    S25_k10 f by_ t65_a t65_l t65_c t66 t67 t73_a t73_l t73_c t74 t75 w R B1 B2
  ) (
    S25_k11 f by_ t65_a t65_l t65_c t66 t67 w R B1
  )

def S25_k8 (f : Addr) (t65_a : Option Addr) (t65_l : Nat) (t65_c : Nat) (t66 : Int) (t67 : Int) (w : World) (R : Value → World → Prop) (B1 : (Int) × Unit → World → Prop) : Prop :=
  ∃ (t69 : Addr),
  t65_a = some t69 ∧
  0 ≤ (t67 : Int) ∧
  (t67 : Int) < ((t65_l : Nat) : Int) ∧
  ∃ (t70 : Int),
  w.cell? (t69.add (Int.toNat t67 * 1)) = some (.int .i64 t70) ∧
  ∃ (t71_0 : Int),
  w.cell? f = some (.int .i64 t71_0) ∧
  ∃ (t71_1 : Int),
  w.cell? (f.add 1) = some (.int .i64 t71_1) ∧
  ∃ (t71_2 : ByteArray),
  w.cell? (f.add 2) = some (.string t71_2) ∧
  Calls Tryd.prog 47 ⟨[(.agg ⟨[(.int .i64 t71_0), (.int .i64 t71_1), (.string t71_2)]⟩), (.int .i64 t70)]⟩ w fun e w_ =>
    ∃ (t73_a : Option Addr) (t73_l : Nat) (t73_c : Nat),
    e = .returned (.slice t73_a t73_l t73_c) ∧
    ∃ (I : (Bool) × (Int) × Unit → World → Prop) (μ : (Bool) × (Int) × Unit → World → Nat),
    I (false, 0, ()) w_ ∧
    ∀ (J : Env) (s : (Bool) × (Int) × Unit) (w' : World), I s w' →
      S25_L9 f s.1 t65_a t65_l t65_c t66 t67 t73_a t73_l t73_c ((t73_l : Nat) : Int) s.2.1 w' R B1 (fun s' w'' => I s' w'' ∧ μ s' w'' < μ s w')

def S25_L7 (f : Addr) (t65_a : Option Addr) (t65_l : Nat) (t65_c : Nat) (t66 : Int) (t67 : Int) (w : World) (R : Value → World → Prop) (B1 : (Int) × Unit → World → Prop) : Prop :=
  cond (decide ((t67 : Int) < t66)) (
    S25_k8 f t65_a t65_l t65_c t66 t67 w R B1
  ) (
    R (.bool true) w
  )

def S25_k6 (f : Addr) (all_a : Option Addr) (all_l : Nat) (all_c : Nat) (w : World) (R : Value → World → Prop) : Prop :=
  ∃ (I : (Int) × Unit → World → Prop) (μ : (Int) × Unit → World → Nat),
  I (0, ()) w ∧
  ∀ (J : Env) (s : (Int) × Unit) (w' : World), I s w' →
    S25_L7 f all_a all_l all_c ((all_l : Nat) : Int) s.1 w' R (fun s' w'' => I s' w'' ∧ μ s' w'' < μ s w')

def S25_k5 (f : Addr) (all_a : Option Addr) (all_l : Nat) (all_c : Nat) (t64 : Bool) (w : World) (R : Value → World → Prop) : Prop :=
  cond t64 (
    R (.bool false) w
  ) (
    S25_k6 f all_a all_l all_c w R
  )

def S25_k4 (f : Addr) (w : World) (R : Value → World → Prop) : Prop :=
  ∃ (t54_0 : Int),
  w.cell? f = some (.int .i64 t54_0) ∧
  ∃ (t54_1 : Int),
  w.cell? (f.add 1) = some (.int .i64 t54_1) ∧
  ∃ (t54_2 : ByteArray),
  w.cell? (f.add 2) = some (.string t54_2) ∧
  Calls Tryd.prog 45 ⟨[(.agg ⟨[(.int .i64 t54_0), (.int .i64 t54_1), (.string t54_2)]⟩)]⟩ w fun e w_ =>
    ∃ (t55_0_a : Option Addr) (t55_0_l : Nat) (t55_0_c : Nat) (t55_1 : Bool),
    e = .returned (.tuple ⟨[(.slice t55_0_a t55_0_l t55_0_c), (.bool t55_1)]⟩) ∧
    cond (!t55_1) (
      S25_k5 f t55_0_a t55_0_l t55_0_c true w_ R
    ) (
      ∃ (t61_0 : Int),
      w_.cell? f = some (.int .i64 t61_0) ∧
      ∃ (t61_1 : Int),
      w_.cell? (f.add 1) = some (.int .i64 t61_1) ∧
      ∃ (t61_2 : ByteArray),
      w_.cell? (f.add 2) = some (.string t61_2) ∧
      Calls Tryd.prog 46 ⟨[(.agg ⟨[(.int .i64 t61_0), (.int .i64 t61_1), (.string t61_2)]⟩)]⟩ w_ fun e w__1 =>
        ∃ (t62 : Bool),
        e = .returned (.bool t62) ∧
        S25_k5 f t55_0_a t55_0_l t55_0_c (!t62) w__1 R
    )

def S25_L2 (f : Addr) (t42 : Int) (t43 : Int) (w : World) (R : Value → World → Prop) (B1 : (Int) × Unit → World → Prop) : Prop :=
  cond (decide ((t43 : Int) < t42)) (
    S25_k3 f t42 t43 w R B1
  ) (
    S25_k4 f w R
  )

def S25_k1 (f : Addr) (w : World) (R : Value → World → Prop) : Prop :=
  ∃ (t41 : ByteArray),
  w.cell? (f.add 2) = some (.string t41) ∧
  ∃ (I : (Int) × Unit → World → Prop) (μ : (Int) × Unit → World → Nat),
  I (0, ()) w ∧
  ∀ (J : Env) (s : (Int) × Unit) (w' : World), I s w' →
    S25_L2 f ((ByteArray.size t41 : Nat) : Int) s.1 w' R (fun s' w'' => I s' w'' ∧ μ s' w'' < μ s w')

def S25_k0 (f : Addr) (t39 : Bool) (w : World) (R : Value → World → Prop) : Prop :=
  cond t39 (
    R (.bool false) w
  ) (
    S25_k1 f w R
  )

def S25 (f_0 : Int) (f_1 : Int) (f_2 : ByteArray) (w : World) (R : Value → World → Prop) : Prop :=
  ∃ (t12 : Int),
  (w.alloc (.cells ⟨[(.int .i64 f_0), (.int .i64 f_1), (.string f_2)]⟩ 25)).cell? ⟨w.heap.size, 0, none⟩ = some (.int .i64 t12) ∧
  cond (decide ((t12 : Int) < 1)) (
    S25_k0 ⟨w.heap.size, 0, none⟩ true (w.alloc (.cells ⟨[(.int .i64 f_0), (.int .i64 f_1), (.string f_2)]⟩ 25)) R
  ) (
    ∃ (t16 : Int),
    (w.alloc (.cells ⟨[(.int .i64 f_0), (.int .i64 f_1), (.string f_2)]⟩ 25)).cell? ⟨w.heap.size, 0, none⟩ = some (.int .i64 t16) ∧
    cond (decide ((16 : Int) < t16)) (
      S25_k0 ⟨w.heap.size, 0, none⟩ true (w.alloc (.cells ⟨[(.int .i64 f_0), (.int .i64 f_1), (.string f_2)]⟩ 25)) R
    ) (
      ∃ (t21 : Int),
      (w.alloc (.cells ⟨[(.int .i64 f_0), (.int .i64 f_1), (.string f_2)]⟩ 25)).cell? ⟨w.heap.size, 1, none⟩ = some (.int .i64 t21) ∧
      cond (decide ((t21 : Int) < 1)) (
        S25_k0 ⟨w.heap.size, 0, none⟩ true (w.alloc (.cells ⟨[(.int .i64 f_0), (.int .i64 f_1), (.string f_2)]⟩ 25)) R
      ) (
        ∃ (t26 : Int),
        (w.alloc (.cells ⟨[(.int .i64 f_0), (.int .i64 f_1), (.string f_2)]⟩ 25)).cell? ⟨w.heap.size, 1, none⟩ = some (.int .i64 t26) ∧
        cond (decide ((16 : Int) < t26)) (
          S25_k0 ⟨w.heap.size, 0, none⟩ true (w.alloc (.cells ⟨[(.int .i64 f_0), (.int .i64 f_1), (.string f_2)]⟩ 25)) R
        ) (
          ∃ (t31 : ByteArray),
          (w.alloc (.cells ⟨[(.int .i64 f_0), (.int .i64 f_1), (.string f_2)]⟩ 25)).cell? ⟨w.heap.size, 2, none⟩ = some (.string t31) ∧
          ∃ (t34 : Int),
          (w.alloc (.cells ⟨[(.int .i64 f_0), (.int .i64 f_1), (.string f_2)]⟩ 25)).cell? ⟨w.heap.size, 0, none⟩ = some (.int .i64 t34) ∧
          ∃ (t36 : Int),
          (w.alloc (.cells ⟨[(.int .i64 f_0), (.int .i64 f_1), (.string f_2)]⟩ 25)).cell? ⟨w.heap.size, 1, none⟩ = some (.int .i64 t36) ∧
          S25_k0 ⟨w.heap.size, 0, none⟩ (!decide ((((ByteArray.size t31 : Nat) : Int) : Int) = (IntKind.i64.wrap (t34 * t36)))) (w.alloc (.cells ⟨[(.int .i64 f_0), (.int .i64 f_1), (.string f_2)]⟩ 25)) R
        )
      )
    )
  )

theorem S25_eq (f_0 : Int) (f_1 : Int) (f_2 : ByteArray) (w : World) (R : Value → World → Prop) : Eng.R Tryd.prog ⟨cal, S25_nx⟩ 92 S25_ann [] (Tryd.f25.body.getD .skip) (bodyQ Tryd.prog #[.tmp 2] R) (argE [(.agg ⟨[(.int .i64 f_0), (.int .i64 f_1), (.string f_2)]⟩)]) w = S25 f_0 f_1 f_2 w R := by kernel_rfl
/-- A call of 'carfax/floor.Right', by its condition. -/
theorem S25_calls {f_0 : Int} {f_1 : Int} {f_2 : ByteArray} {w : World} {R : Value → World → Prop} (hS : S25 f_0 f_1 f_2 w R) : Ret Tryd.prog 25 [(.agg ⟨[(.int .i64 f_0), (.int .i64 f_1), (.string f_2)]⟩)] w R :=
  R_calls (C := ⟨cal, S25_nx⟩) cal_ok follows Tryd.func25 (c := Tryd.f25.body.getD .skip) (res := #[.tmp 2]) (n := 92) (by kernel_rfl) (by kernel_rfl) (by kernel_rfl) (by kernel_rfl) ((S25_eq f_0 f_1 f_2 w R).mpr hS)

def S27_ann (p : List Nat) : Option LA :=
  none

def S27_nx (t : Nat) : Option (TypeId × TypeId) := none

def S27 (w_0 : Int) (w_1 : Int) (m : Int) (w : World) (R : Value → World → Prop) : Prop :=
  ∃ (t6 : Int),
  (w.alloc (.cells ⟨[(.int .i64 w_0), (.int .i64 w_1)]⟩ 33)).cell? ⟨w.heap.size, 1, none⟩ = some (.int .i64 t6) ∧
  cond (decide ((t6 : Int) ≤ m)) (
    R (.int .i64 (-1)) (w.alloc (.cells ⟨[(.int .i64 w_0), (.int .i64 w_1)]⟩ 33))
  ) (
    R (.int .i64 1) (w.alloc (.cells ⟨[(.int .i64 w_0), (.int .i64 w_1)]⟩ 33))
  )

theorem S27_eq (w_0 : Int) (w_1 : Int) (m : Int) (w : World) (R : Value → World → Prop) : Eng.R Tryd.prog ⟨cal, S27_nx⟩ 9 S27_ann [] (Tryd.f27.body.getD .skip) (bodyQ Tryd.prog #[.tmp 4] R) (argE [(.agg ⟨[(.int .i64 w_0), (.int .i64 w_1)]⟩), (.int .i64 m)]) w = S27 w_0 w_1 m w R := by kernel_rfl
/-- A call of '(*carfax/window.Table).place$1', by its condition. -/
theorem S27_calls {w_0 : Int} {w_1 : Int} {m : Int} {w : World} {R : Value → World → Prop} (hS : S27 w_0 w_1 m w R) : Ret Tryd.prog 27 [(.agg ⟨[(.int .i64 w_0), (.int .i64 w_1)]⟩), (.int .i64 m)] w R :=
  R_calls (C := ⟨cal, S27_nx⟩) cal_ok follows Tryd.func27 (c := Tryd.f27.body.getD .skip) (res := #[.tmp 4]) (n := 9) (by kernel_rfl) (by kernel_rfl) (by kernel_rfl) (by kernel_rfl) ((S27_eq w_0 w_1 m w R).mpr hS)

def S29_ann (p : List Nat) : Option LA :=
  none

def S29_nx (t : Nat) : Option (TypeId × TypeId) := none

def S29 (s_a : Option Addr) (s_l : Nat) (s_c : Nat) (r : Int) (w : World) (R : Value → World → Prop) : Prop :=
  Calls Tryd.prog 48 ⟨[(.slice s_a s_l s_c), (.int .i64 (IntKind.i64.wrap (((s_l : Nat) : Int) - r)))]⟩ w fun e w_ =>
    e = .returned (.tuple ⟨[]⟩) ∧
    R (.tuple ⟨[]⟩) w_

theorem S29_eq (s_a : Option Addr) (s_l : Nat) (s_c : Nat) (r : Int) (w : World) (R : Value → World → Prop) : Eng.R Tryd.prog ⟨cal, S29_nx⟩ 10 S29_ann [] (Tryd.f29.body.getD .skip) (bodyQ Tryd.prog #[] R) (argE [(.slice s_a s_l s_c), (.int .i64 r)]) w = S29 s_a s_l s_c r w R := by kernel_rfl
/-- A call of 'slices.rotateRight[carfax/api.Window]', by its condition. -/
theorem S29_calls {s_a : Option Addr} {s_l : Nat} {s_c : Nat} {r : Int} {w : World} {R : Value → World → Prop} (hS : S29 s_a s_l s_c r w R) : Ret Tryd.prog 29 [(.slice s_a s_l s_c), (.int .i64 r)] w R :=
  R_calls (C := ⟨cal, S29_nx⟩) cal_ok follows Tryd.func29 (c := Tryd.f29.body.getD .skip) (res := #[]) (n := 10) (by kernel_rfl) (by kernel_rfl) (by kernel_rfl) (by kernel_rfl) ((S29_eq s_a s_l s_c r w R).mpr hS)

def S30_ann (p : List Nat) : Option LA := match p with
  | [0, 1, 0, 1, 1, 1, 1] => some ⟨[6, 17, 18], [(5, .one .slice), (19, .one (.int .i64))]⟩
  | _ => none

def S30_nx (t : Nat) : Option (TypeId × TypeId) := none

def S30_k3 (out_a : Option Addr) (out_l : Nat) (out_c : Nat) (free : Addr) (w_ : Addr) (t17_a : Option Addr) (t17_l : Nat) (t17_c : Nat) (t18 : Int) (t19 : Int) (w : World) (R : Value → World → Prop) (B1 : (Option Addr × Nat × Nat) × (Int) × Unit → World → Prop) : Prop :=
  ∃ (t37 : Int),
  w.cell? (w_.add 1) = some (.int .i64 t37) ∧
  (∃ u, w.cell? free = some u) ∧
  w.frozen? free = false ∧
  B1 ((out_a, out_l, out_c), (IntKind.i64.wrap (t19 + 1)), ()) (w.setCell free (.int .i64 t37))

def S30_k2 (out_a : Option Addr) (out_l : Nat) (out_c : Nat) (free : Addr) (t17_a : Option Addr) (t17_l : Nat) (t17_c : Nat) (t18 : Int) (t19 : Int) (w : World) (R : Value → World → Prop) (B1 : (Option Addr × Nat × Nat) × (Int) × Unit → World → Prop) : Prop :=
  ∃ (t21 : Addr),
  t17_a = some t21 ∧
  0 ≤ (t19 : Int) ∧
  (t19 : Int) < ((t17_l : Nat) : Int) ∧
  ∃ (t22_0 : Int),
  w.cell? (t21.add (Int.toNat t19 * 2)) = some (.int .i64 t22_0) ∧
  ∃ (t22_1 : Int),
  w.cell? ((t21.add (Int.toNat t19 * 2)).add 1) = some (.int .i64 t22_1) ∧
  (∃ u, (w.alloc (.cells ⟨[(.int .i64 0), (.int .i64 0)]⟩ 33)).cell? ⟨w.heap.size, 0, none⟩ = some u) ∧
  (w.alloc (.cells ⟨[(.int .i64 0), (.int .i64 0)]⟩ 33)).frozen? ⟨w.heap.size, 0, none⟩ = false ∧
  (∃ u, ((w.alloc (.cells ⟨[(.int .i64 0), (.int .i64 0)]⟩ 33)).setCell ⟨w.heap.size, 0, none⟩ (.int .i64 t22_0)).cell? ⟨w.heap.size, 1, none⟩ = some u) ∧
  ((w.alloc (.cells ⟨[(.int .i64 0), (.int .i64 0)]⟩ 33)).setCell ⟨w.heap.size, 0, none⟩ (.int .i64 t22_0)).frozen? ⟨w.heap.size, 1, none⟩ = false ∧
  ∃ (t24 : Int),
  (((w.alloc (.cells ⟨[(.int .i64 0), (.int .i64 0)]⟩ 33)).setCell ⟨w.heap.size, 0, none⟩ (.int .i64 t22_0)).setCell ⟨w.heap.size, 1, none⟩ (.int .i64 t22_1)).cell? ⟨w.heap.size, 0, none⟩ = some (.int .i64 t24) ∧
  ∃ (t26 : Int),
  (((w.alloc (.cells ⟨[(.int .i64 0), (.int .i64 0)]⟩ 33)).setCell ⟨w.heap.size, 0, none⟩ (.int .i64 t22_0)).setCell ⟨w.heap.size, 1, none⟩ (.int .i64 t22_1)).cell? free = some (.int .i64 t26) ∧
  cond (decide ((t26 : Int) < t24)) (
    ∃ (t30 : Int),
    (((w.alloc (.cells ⟨[(.int .i64 0), (.int .i64 0)]⟩ 33)).setCell ⟨w.heap.size, 0, none⟩ (.int .i64 t22_0)).setCell ⟨w.heap.size, 1, none⟩ (.int .i64 t22_1)).cell? free = some (.int .i64 t30) ∧
    ∃ (t32 : Int),
    (((w.alloc (.cells ⟨[(.int .i64 0), (.int .i64 0)]⟩ 33)).setCell ⟨w.heap.size, 0, none⟩ (.int .i64 t22_0)).setCell ⟨w.heap.size, 1, none⟩ (.int .i64 t22_1)).cell? ⟨w.heap.size, 0, none⟩ = some (.int .i64 t32) ∧
    ∃ (t35_a : Option Addr) (t35_l : Nat) (t35_c : Nat) (w_ : World),
    (Builtin.append_ #[46, 46] 46 ⟨[(.slice out_a out_l out_c), (.slice (some ⟨(((w.alloc (.cells ⟨[(.int .i64 0), (.int .i64 0)]⟩ 33)).setCell ⟨w.heap.size, 0, none⟩ (.int .i64 t22_0)).setCell ⟨w.heap.size, 1, none⟩ (.int .i64 t22_1)).heap.size, 0, none⟩) 1 1)]⟩).run Tryd.prog ((((w.alloc (.cells ⟨[(.int .i64 0), (.int .i64 0)]⟩ 33)).setCell ⟨w.heap.size, 0, none⟩ (.int .i64 t22_0)).setCell ⟨w.heap.size, 1, none⟩ (.int .i64 t22_1)).alloc (.cells ⟨[(.int .i64 t30), (.int .i64 t32)]⟩ 33)) = .ok (.slice t35_a t35_l t35_c) w_ ∧
    S30_k3 t35_a t35_l t35_c free ⟨w.heap.size, 0, none⟩ t17_a t17_l t17_c t18 t19 w_ R B1
  ) (
    S30_k3 out_a out_l out_c free ⟨w.heap.size, 0, none⟩ t17_a t17_l t17_c t18 t19 (((w.alloc (.cells ⟨[(.int .i64 0), (.int .i64 0)]⟩ 33)).setCell ⟨w.heap.size, 0, none⟩ (.int .i64 t22_0)).setCell ⟨w.heap.size, 1, none⟩ (.int .i64 t22_1)) R B1
  )

def S30_k4 (out_a : Option Addr) (out_l : Nat) (out_c : Nat) (free : Addr) (w : World) (R : Value → World → Prop) : Prop :=
  ∃ (t41 : Int),
  w.cell? free = some (.int .i64 t41) ∧
  ∃ (t43 : Int),
  w.cell? (free.add 1) = some (.int .i64 t43) ∧
  cond (decide ((t41 : Int) < t43)) (
    ∃ (t46_0 : Int),
    w.cell? free = some (.int .i64 t46_0) ∧
    ∃ (t46_1 : Int),
    w.cell? (free.add 1) = some (.int .i64 t46_1) ∧
    ∃ (t48_a : Option Addr) (t48_l : Nat) (t48_c : Nat) (w_ : World),
    (Builtin.append_ #[46, 46] 46 ⟨[(.slice out_a out_l out_c), (.slice (some ⟨w.heap.size, 0, none⟩) 1 1)]⟩).run Tryd.prog (w.alloc (.cells ⟨[(.int .i64 t46_0), (.int .i64 t46_1)]⟩ 33)) = .ok (.slice t48_a t48_l t48_c) w_ ∧
    R (.slice t48_a t48_l t48_c) w_
  ) (
    R (.slice out_a out_l out_c) w
  )

def S30_L1 (out_a : Option Addr) (out_l : Nat) (out_c : Nat) (free : Addr) (t17_a : Option Addr) (t17_l : Nat) (t17_c : Nat) (t18 : Int) (t19 : Int) (w : World) (R : Value → World → Prop) (B1 : (Option Addr × Nat × Nat) × (Int) × Unit → World → Prop) : Prop :=
  cond (decide ((t19 : Int) < t18)) (
    S30_k2 out_a out_l out_c free t17_a t17_l t17_c t18 t19 w R B1
  ) (
    S30_k4 out_a out_l out_c free w R
  )

def S30_k0 (t : Option Addr) (cell : Int) (w : World) (R : Value → World → Prop) : Prop :=
  (∃ u, (w.alloc (.cells ⟨[(.int .i64 0), (.int .i64 0)]⟩ 33)).cell? ⟨w.heap.size, 0, none⟩ = some u) ∧
  (w.alloc (.cells ⟨[(.int .i64 0), (.int .i64 0)]⟩ 33)).frozen? ⟨w.heap.size, 0, none⟩ = false ∧
  (∃ u, ((w.alloc (.cells ⟨[(.int .i64 0), (.int .i64 0)]⟩ 33)).setCell ⟨w.heap.size, 0, none⟩ (.int .i64 0)).cell? ⟨w.heap.size, 1, none⟩ = some u) ∧
  ((w.alloc (.cells ⟨[(.int .i64 0), (.int .i64 0)]⟩ 33)).setCell ⟨w.heap.size, 0, none⟩ (.int .i64 0)).frozen? ⟨w.heap.size, 1, none⟩ = false ∧
  ∃ (t13 : Addr),
  t = some t13 ∧
  ∃ (t15 : Option Nat),
  (((w.alloc (.cells ⟨[(.int .i64 0), (.int .i64 0)]⟩ 33)).setCell ⟨w.heap.size, 0, none⟩ (.int .i64 0)).setCell ⟨w.heap.size, 1, none⟩ (.int .i64 1048576)).cell? t13 = some (.map t15) ∧
  ∃ (t17_a : Option Addr) (t17_l : Nat) (t17_c : Nat) (w_ : World),
  (Instr.lookup 42 (.map t15) (.int .i64 cell) false).run Tryd.prog (((w.alloc (.cells ⟨[(.int .i64 0), (.int .i64 0)]⟩ 33)).setCell ⟨w.heap.size, 0, none⟩ (.int .i64 0)).setCell ⟨w.heap.size, 1, none⟩ (.int .i64 1048576)) = .ok (.slice t17_a t17_l t17_c) w_ ∧
  ∃ (I : (Option Addr × Nat × Nat) × (Int) × Unit → World → Prop) (μ : (Option Addr × Nat × Nat) × (Int) × Unit → World → Nat),
  I ((none, 0, 0), 0, ()) w_ ∧
  ∀ (J : Env) (s : (Option Addr × Nat × Nat) × (Int) × Unit) (w' : World), I s w' →
    S30_L1 s.1.1 s.1.2.1 s.1.2.2 ⟨w.heap.size, 0, none⟩ t17_a t17_l t17_c ((t17_l : Nat) : Int) s.2.1 w' R (fun s' w'' => I s' w'' ∧ μ s' w'' < μ s w')

def S30 (t : Option Addr) (cell : Int) (w : World) (R : Value → World → Prop) : Prop :=
  cond (Option.isNone t) (
    R (.slice none 0 0) w
  ) (
    S30_k0 t cell w R
  )

theorem S30_eq (t : Option Addr) (cell : Int) (w : World) (R : Value → World → Prop) : Eng.R Tryd.prog ⟨cal, S30_nx⟩ 50 S30_ann [] (Tryd.f30.body.getD .skip) (bodyQ Tryd.prog #[.tmp 4] R) (argE [(.pointer t), (.int .i64 cell)]) w = S30 t cell w R := by kernel_rfl
/-- A call of '(*carfax/window.Table).Free', by its condition. -/
theorem S30_calls {t : Option Addr} {cell : Int} {w : World} {R : Value → World → Prop} (hS : S30 t cell w R) : Ret Tryd.prog 30 [(.pointer t), (.int .i64 cell)] w R :=
  R_calls (C := ⟨cal, S30_nx⟩) cal_ok follows Tryd.func30 (c := Tryd.f30.body.getD .skip) (res := #[.tmp 4]) (n := 50) (by kernel_rfl) (by kernel_rfl) (by kernel_rfl) (by kernel_rfl) ((S30_eq t cell w R).mpr hS)

def S32_ann (p : List Nat) : Option LA :=
  none

def S32_nx (t : Nat) : Option (TypeId × TypeId) := none

def S32_k0 (cell : Int) (f : Addr) (w : World) (R : Value → World → Prop) : Prop :=
  ∃ (t11 : ByteArray),
  w.cell? (f.add 2) = some (.string t11) ∧
  ∃ (t13 : UInt8),
  0 ≤ (cell : Int) ∧
  (t11)[Int.toNat cell]? = some t13 ∧
  R (.tuple ⟨[(.int .i64 (IntKind.i64.wrap (IntKind.u8.wrap ((t13.toNat : Int) - 97)))), (.bool true)]⟩) w

def S32 (f_0 : Int) (f_1 : Int) (f_2 : ByteArray) (cell : Int) (w : World) (R : Value → World → Prop) : Prop :=
  ∃ (t6_0 : Int),
  (w.alloc (.cells ⟨[(.int .i64 f_0), (.int .i64 f_1), (.string f_2)]⟩ 25)).cell? ⟨w.heap.size, 0, none⟩ = some (.int .i64 t6_0) ∧
  ∃ (t6_1 : Int),
  (w.alloc (.cells ⟨[(.int .i64 f_0), (.int .i64 f_1), (.string f_2)]⟩ 25)).cell? ⟨w.heap.size, 1, none⟩ = some (.int .i64 t6_1) ∧
  ∃ (t6_2 : ByteArray),
  (w.alloc (.cells ⟨[(.int .i64 f_0), (.int .i64 f_1), (.string f_2)]⟩ 25)).cell? ⟨w.heap.size, 2, none⟩ = some (.string t6_2) ∧
  Calls Tryd.prog 49 ⟨[(.agg ⟨[(.int .i64 t6_0), (.int .i64 t6_1), (.string t6_2)]⟩), (.int .i64 cell), (.int .i64 2)]⟩ (w.alloc (.cells ⟨[(.int .i64 f_0), (.int .i64 f_1), (.string f_2)]⟩ 25)) fun e w_ =>
    ∃ (t8 : Bool),
    e = .returned (.bool t8) ∧
    cond (!t8) (
      R (.tuple ⟨[(.int .i64 0), (.bool false)]⟩) w_
    ) (
      S32_k0 cell ⟨w.heap.size, 0, none⟩ w_ R
    )

theorem S32_eq (f_0 : Int) (f_1 : Int) (f_2 : ByteArray) (cell : Int) (w : World) (R : Value → World → Prop) : Eng.R Tryd.prog ⟨cal, S32_nx⟩ 16 S32_ann [] (Tryd.f32.body.getD .skip) (bodyQ Tryd.prog #[.tmp 4, .tmp 5] R) (argE [(.agg ⟨[(.int .i64 f_0), (.int .i64 f_1), (.string f_2)]⟩), (.int .i64 cell)]) w = S32 f_0 f_1 f_2 cell w R := by kernel_rfl
/-- A call of 'carfax/floor.Zone', by its condition. -/
theorem S32_calls {f_0 : Int} {f_1 : Int} {f_2 : ByteArray} {cell : Int} {w : World} {R : Value → World → Prop} (hS : S32 f_0 f_1 f_2 cell w R) : Ret Tryd.prog 32 [(.agg ⟨[(.int .i64 f_0), (.int .i64 f_1), (.string f_2)]⟩), (.int .i64 cell)] w R :=
  R_calls (C := ⟨cal, S32_nx⟩) cal_ok follows Tryd.func32 (c := Tryd.f32.body.getD .skip) (res := #[.tmp 4, .tmp 5]) (n := 16) (by kernel_rfl) (by kernel_rfl) (by kernel_rfl) (by kernel_rfl) ((S32_eq f_0 f_1 f_2 cell w R).mpr hS)

def S33_ann (p : List Nat) : Option LA := match p with
  | [0, 1, 0, 1, 1, 1] => some ⟨[2, 20, 21], [(5, .one .slice), (22, .one (.int .i64))]⟩
  | _ => none

def S33_nx (t : Nat) : Option (TypeId × TypeId) := none

def S33_k3 (f : Addr) (out_a : Option Addr) (out_l : Nat) (out_c : Nat) (t20_a : Option Addr) (t20_l : Nat) (t20_c : Nat) (t21 : Int) (t22 : Int) (w : World) (R : Value → World → Prop) (B1 : (Option Addr × Nat × Nat) × (Int) × Unit → World → Prop) : Prop :=
  ∃ (t24 : Addr),
  t20_a = some t24 ∧
  0 ≤ (t22 : Int) ∧
  (t22 : Int) < ((t20_l : Nat) : Int) ∧
  ∃ (t25 : Int),
  w.cell? (t24.add (Int.toNat t22 * 1)) = some (.int .i64 t25) ∧
  ∃ (t27 : ByteArray),
  w.cell? (f.add 2) = some (.string t27) ∧
  ∃ (t29 : UInt8),
  0 ≤ (t25 : Int) ∧
  (t27)[Int.toNat t25]? = some t29 ∧
  cond (!decide (((t29.toNat : Int) : Int) = 35)) (
    ∃ (t34_a : Option Addr) (t34_l : Nat) (t34_c : Nat) (w_ : World),
    (Builtin.append_ #[79, 79] 79 ⟨[(.slice out_a out_l out_c), (.slice (some ⟨w.heap.size, 0, none⟩) 1 1)]⟩).run Tryd.prog (w.alloc (.cells ⟨[(.int .i64 t25)]⟩ 3)) = .ok (.slice t34_a t34_l t34_c) w_ ∧
    B1 ((t34_a, t34_l, t34_c), (IntKind.i64.wrap (t22 + 1)), ()) w_
  ) (
    B1 ((out_a, out_l, out_c), (IntKind.i64.wrap (t22 + 1)), ()) w
  )

def S33_L2 (f : Addr) (out_a : Option Addr) (out_l : Nat) (out_c : Nat) (t20_a : Option Addr) (t20_l : Nat) (t20_c : Nat) (t21 : Int) (t22 : Int) (w : World) (R : Value → World → Prop) (B1 : (Option Addr × Nat × Nat) × (Int) × Unit → World → Prop) : Prop :=
  cond (decide ((t22 : Int) < t21)) (
    S33_k3 f out_a out_l out_c t20_a t20_l t20_c t21 t22 w R B1
  ) (
    R (.slice out_a out_l out_c) w
  )

def S33_k1 (cell : Int) (f : Addr) (w : World) (R : Value → World → Prop) : Prop :=
  ∃ (t18_0 : Int),
  w.cell? f = some (.int .i64 t18_0) ∧
  ∃ (t18_1 : Int),
  w.cell? (f.add 1) = some (.int .i64 t18_1) ∧
  ∃ (t18_2 : ByteArray),
  w.cell? (f.add 2) = some (.string t18_2) ∧
  Calls Tryd.prog 47 ⟨[(.agg ⟨[(.int .i64 t18_0), (.int .i64 t18_1), (.string t18_2)]⟩), (.int .i64 cell)]⟩ w fun e w_ =>
    ∃ (t20_a : Option Addr) (t20_l : Nat) (t20_c : Nat),
    e = .returned (.slice t20_a t20_l t20_c) ∧
    ∃ (I : (Option Addr × Nat × Nat) × (Int) × Unit → World → Prop) (μ : (Option Addr × Nat × Nat) × (Int) × Unit → World → Nat),
    I ((none, 0, 0), 0, ()) w_ ∧
    ∀ (J : Env) (s : (Option Addr × Nat × Nat) × (Int) × Unit) (w' : World), I s w' →
      S33_L2 f s.1.1 s.1.2.1 s.1.2.2 t20_a t20_l t20_c ((t20_l : Nat) : Int) s.2.1 w' R (fun s' w'' => I s' w'' ∧ μ s' w'' < μ s w')

def S33_k0 (cell : Int) (f : Addr) (t17 : Bool) (w : World) (R : Value → World → Prop) : Prop :=
  cond t17 (
    R (.slice none 0 0) w
  ) (
    S33_k1 cell f w R
  )

def S33 (f_0 : Int) (f_1 : Int) (f_2 : ByteArray) (cell : Int) (w : World) (R : Value → World → Prop) : Prop :=
  ∃ (t8_0 : Int),
  (w.alloc (.cells ⟨[(.int .i64 f_0), (.int .i64 f_1), (.string f_2)]⟩ 25)).cell? ⟨w.heap.size, 0, none⟩ = some (.int .i64 t8_0) ∧
  ∃ (t8_1 : Int),
  (w.alloc (.cells ⟨[(.int .i64 f_0), (.int .i64 f_1), (.string f_2)]⟩ 25)).cell? ⟨w.heap.size, 1, none⟩ = some (.int .i64 t8_1) ∧
  ∃ (t8_2 : ByteArray),
  (w.alloc (.cells ⟨[(.int .i64 f_0), (.int .i64 f_1), (.string f_2)]⟩ 25)).cell? ⟨w.heap.size, 2, none⟩ = some (.string t8_2) ∧
  Calls Tryd.prog 49 ⟨[(.agg ⟨[(.int .i64 t8_0), (.int .i64 t8_1), (.string t8_2)]⟩), (.int .i64 cell), (.int .i64 2)]⟩ (w.alloc (.cells ⟨[(.int .i64 f_0), (.int .i64 f_1), (.string f_2)]⟩ 25)) fun e w_ =>
    ∃ (t10 : Bool),
    e = .returned (.bool t10) ∧
    cond (!t10) (
      ∃ (t13_0 : Int),
      w_.cell? ⟨w.heap.size, 0, none⟩ = some (.int .i64 t13_0) ∧
      ∃ (t13_1 : Int),
      w_.cell? ⟨w.heap.size, 1, none⟩ = some (.int .i64 t13_1) ∧
      ∃ (t13_2 : ByteArray),
      w_.cell? ⟨w.heap.size, 2, none⟩ = some (.string t13_2) ∧
      Calls Tryd.prog 49 ⟨[(.agg ⟨[(.int .i64 t13_0), (.int .i64 t13_1), (.string t13_2)]⟩), (.int .i64 cell), (.int .i64 3)]⟩ w_ fun e w__1 =>
        ∃ (t15 : Bool),
        e = .returned (.bool t15) ∧
        S33_k0 cell ⟨w.heap.size, 0, none⟩ (!t15) w__1 R
    ) (
      S33_k0 cell ⟨w.heap.size, 0, none⟩ false w_ R
    )

theorem S33_eq (f_0 : Int) (f_1 : Int) (f_2 : ByteArray) (cell : Int) (w : World) (R : Value → World → Prop) : Eng.R Tryd.prog ⟨cal, S33_nx⟩ 37 S33_ann [] (Tryd.f33.body.getD .skip) (bodyQ Tryd.prog #[.tmp 4] R) (argE [(.agg ⟨[(.int .i64 f_0), (.int .i64 f_1), (.string f_2)]⟩), (.int .i64 cell)]) w = S33 f_0 f_1 f_2 cell w R := by kernel_rfl
/-- A call of 'carfax/floor.Near', by its condition. -/
theorem S33_calls {f_0 : Int} {f_1 : Int} {f_2 : ByteArray} {cell : Int} {w : World} {R : Value → World → Prop} (hS : S33 f_0 f_1 f_2 cell w R) : Ret Tryd.prog 33 [(.agg ⟨[(.int .i64 f_0), (.int .i64 f_1), (.string f_2)]⟩), (.int .i64 cell)] w R :=
  R_calls (C := ⟨cal, S33_nx⟩) cal_ok follows Tryd.func33 (c := Tryd.f33.body.getD .skip) (res := #[.tmp 4]) (n := 37) (by kernel_rfl) (by kernel_rfl) (by kernel_rfl) (by kernel_rfl) ((S33_eq f_0 f_1 f_2 cell w R).mpr hS)

def S34_ann (p : List Nat) : Option LA :=
  none

def S34_nx (t : Nat) : Option (TypeId × TypeId) := none

def S34 (w : World) (R : Value → World → Prop) : Prop :=
  R (.pointer (some ⟨w.heap.size, 0, none⟩)) (w.alloc (.cells ⟨[(.slice none 0 0), (.int .u64 0)]⟩ 109))

theorem S34_eq (w : World) (R : Value → World → Prop) : Eng.R Tryd.prog ⟨cal, S34_nx⟩ 2 S34_ann [] (Tryd.f34.body.getD .skip) (bodyQ Tryd.prog #[.tmp 0] R) (argE []) w = S34  w R := by kernel_rfl
/-- A call of 'carfax/heap.New', by its condition. -/
theorem S34_calls {w : World} {R : Value → World → Prop} (hS : S34  w R) : Ret Tryd.prog 34 [] w R :=
  R_calls (C := ⟨cal, S34_nx⟩) cal_ok follows Tryd.func34 (c := Tryd.f34.body.getD .skip) (res := #[.tmp 0]) (n := 2) (by kernel_rfl) (by kernel_rfl) (by kernel_rfl) (by kernel_rfl) ((S34_eq  w R).mpr hS)

def S35_ann (p : List Nat) : Option LA :=
  none

def S35_nx (t : Nat) : Option (TypeId × TypeId) := none

def S35_k1 (h : Option Addr) (w : World) (R : Value → World → Prop) : Prop :=
  ∃ (t22 : Addr),
  h = some t22 ∧
  ∃ (t24 : Int),
  w.cell? (t22.add 1) = some (.int .u64 t24) ∧
  ∃ (t26 : Addr),
  h = some t26 ∧
  (∃ u, w.cell? (t26.add 1) = some u) ∧
  w.frozen? (t26.add 1) = false ∧
  ∃ (t30 : Addr),
  h = some t30 ∧
  ∃ (t32_a : Option Addr) (t32_l : Nat) (t32_c : Nat),
  (w.setCell (t26.add 1) (.int .u64 (IntKind.u64.wrap (t24 + 1)))).cell? t30 = some (.slice t32_a t32_l t32_c) ∧
  Calls Tryd.prog 50 ⟨[(.pointer h), (.int .i64 (IntKind.i64.wrap (((t32_l : Nat) : Int) - 1)))]⟩ (w.setCell (t26.add 1) (.int .u64 (IntKind.u64.wrap (t24 + 1)))) fun e w_ =>
    e = .returned (.tuple ⟨[]⟩) ∧
    R (.tuple ⟨[]⟩) w_

def S35_k0 (h : Option Addr) (x : Addr) (w : World) (R : Value → World → Prop) : Prop :=
  ∃ (t8 : Addr),
  h = some t8 ∧
  ∃ (t13 : Addr),
  h = some t13 ∧
  ∃ (t11_0 : Int),
  w.drew.cell? x = some (.int .i64 t11_0) ∧
  ∃ (t11_1 : Int),
  w.drew.cell? (x.add 1) = some (.int .i64 t11_1) ∧
  ∃ (t15 : Int),
  w.drew.cell? (t13.add 1) = some (.int .u64 t15) ∧
  ∃ (t10_a : Option Addr) (t10_l : Nat) (t10_c : Nat),
  w.drew.cell? t8 = some (.slice t10_a t10_l t10_c) ∧
  ∃ (t18_a : Option Addr) (t18_l : Nat) (t18_c : Nat) (w_ : World),
  (Builtin.append_ #[106, 106] 106 ⟨[(.slice t10_a t10_l t10_c), (.slice (some ⟨w.drew.heap.size, 0, none⟩) 1 1)]⟩).run Tryd.prog (w.drew.alloc (.cells ⟨[(.int .i64 t11_0), (.int .i64 t11_1), (.int .u64 t15)]⟩ 111)) = .ok (.slice t18_a t18_l t18_c) w_ ∧
  ∃ (t19 : Addr),
  h = some t19 ∧
  (∃ u, w_.cell? t19 = some u) ∧
  w_.frozen? t19 = false ∧
  S35_k1 h (w_.setCell t19 (.slice t18_a t18_l t18_c)) R

def S35 (h : Option Addr) (x_0 : Int) (x_1 : Int) (w : World) (R : Value → World → Prop) : Prop :=
  cond (Option.isNone h) (
    R (.tuple ⟨[]⟩) (w.alloc (.cells ⟨[(.int .i64 x_0), (.int .i64 x_1)]⟩ 86))
  ) (
    S35_k0 h ⟨w.heap.size, 0, none⟩ (w.alloc (.cells ⟨[(.int .i64 x_0), (.int .i64 x_1)]⟩ 86)) R
  )

theorem S35_eq (h : Option Addr) (x_0 : Int) (x_1 : Int) (w : World) (R : Value → World → Prop) : Eng.R Tryd.prog ⟨cal, S35_nx⟩ 36 S35_ann [] (Tryd.f35.body.getD .skip) (bodyQ Tryd.prog #[] R) (argE [(.pointer h), (.agg ⟨[(.int .i64 x_0), (.int .i64 x_1)]⟩)]) w = S35 h x_0 x_1 w R := by kernel_rfl
/-- A call of '(*carfax/heap.Heap).Push', by its condition. -/
theorem S35_calls {h : Option Addr} {x_0 : Int} {x_1 : Int} {w : World} {R : Value → World → Prop} (hS : S35 h x_0 x_1 w R) : Ret Tryd.prog 35 [(.pointer h), (.agg ⟨[(.int .i64 x_0), (.int .i64 x_1)]⟩)] w R :=
  R_calls (C := ⟨cal, S35_nx⟩) cal_ok follows Tryd.func35 (c := Tryd.f35.body.getD .skip) (res := #[]) (n := 36) (by kernel_rfl) (by kernel_rfl) (by kernel_rfl) (by kernel_rfl) ((S35_eq h x_0 x_1 w R).mpr hS)

def S36_ann (p : List Nat) : Option LA :=
  none

def S36_nx (t : Nat) : Option (TypeId × TypeId) := none

def S36_k0 (h : Option Addr) (t2 : Addr) (x : Addr) (w : World) (R : Value → World → Prop) : Prop :=
  ∃ (t16 : Addr),
  h = some t16 ∧
  ∃ (t18_a : Option Addr) (t18_l : Nat) (t18_c : Nat),
  w.cell? t16 = some (.slice t18_a t18_l t18_c) ∧
  Calls Tryd.prog 52 ⟨[(.pointer h), (.int .i64 0), (.int .i64 (IntKind.i64.wrap (((t18_l : Nat) : Int) - 1)))]⟩ w fun e w_ =>
    e = .returned (.tuple ⟨[]⟩) ∧
    ∃ (t26 : Addr),
    h = some t26 ∧
    ∃ (t28_a : Option Addr) (t28_l : Nat) (t28_c : Nat),
    w_.cell? t26 = some (.slice t28_a t28_l t28_c) ∧
    0 ≤ ((IntKind.i64.wrap (((t18_l : Nat) : Int) - 1)) : Int) ∧
    ((IntKind.i64.wrap (((t18_l : Nat) : Int) - 1)) : Int) ≤ ((t28_c : Nat) : Int) ∧
    ∃ (t31 : Addr),
    h = some t31 ∧
    (∃ u, w_.cell? t31 = some u) ∧
    w_.frozen? t31 = false ∧
    Calls Tryd.prog 53 ⟨[(.pointer h), (.int .i64 0)]⟩ (w_.setCell t31 (.slice (slAddr t28_a t28_c 0 3) ((Int.toNat (IntKind.i64.wrap (((t18_l : Nat) : Int) - 1))) - 0) (t28_c - 0))) fun e w__1 =>
      e = .returned (.tuple ⟨[]⟩) ∧
      ∃ (t35_0 : Int),
      w__1.cell? x = some (.int .i64 t35_0) ∧
      ∃ (t35_1 : Int),
      w__1.cell? (x.add 1) = some (.int .i64 t35_1) ∧
      (∃ u, w__1.cell? t2 = some u) ∧
      w__1.frozen? t2 = false ∧
      (∃ u, (w__1.setCell t2 (.int .i64 t35_0)).cell? (t2.add 1) = some u) ∧
      (w__1.setCell t2 (.int .i64 t35_0)).frozen? (t2.add 1) = false ∧
      ∃ (t2_0 : Int),
      ((w__1.setCell t2 (.int .i64 t35_0)).setCell (t2.add 1) (.int .i64 t35_1)).cell? t2 = some (.int .i64 t2_0) ∧
      ∃ (t2_1 : Int),
      ((w__1.setCell t2 (.int .i64 t35_0)).setCell (t2.add 1) (.int .i64 t35_1)).cell? (t2.add 1) = some (.int .i64 t2_1) ∧
      R (.tuple ⟨[(.agg ⟨[(.int .i64 t2_0), (.int .i64 t2_1)]⟩), (.bool true)]⟩) ((w__1.setCell t2 (.int .i64 t35_0)).setCell (t2.add 1) (.int .i64 t35_1))

def S36 (h : Option Addr) (w : World) (R : Value → World → Prop) : Prop :=
  Calls Tryd.prog 51 ⟨[(.pointer h)]⟩ (w.alloc (.cells ⟨[(.int .i64 0), (.int .i64 0)]⟩ 86)) fun e w_ =>
    ∃ (t9_0_0 : Int) (t9_0_1 : Int) (t9_1 : Bool),
    e = .returned (.tuple ⟨[(.agg ⟨[(.int .i64 t9_0_0), (.int .i64 t9_0_1)]⟩), (.bool t9_1)]⟩) ∧
    (∃ u, (w_.alloc (.cells ⟨[(.int .i64 0), (.int .i64 0)]⟩ 86)).cell? ⟨w_.heap.size, 0, none⟩ = some u) ∧
    (w_.alloc (.cells ⟨[(.int .i64 0), (.int .i64 0)]⟩ 86)).frozen? ⟨w_.heap.size, 0, none⟩ = false ∧
    (∃ u, ((w_.alloc (.cells ⟨[(.int .i64 0), (.int .i64 0)]⟩ 86)).setCell ⟨w_.heap.size, 0, none⟩ (.int .i64 t9_0_0)).cell? ⟨w_.heap.size, 1, none⟩ = some u) ∧
    ((w_.alloc (.cells ⟨[(.int .i64 0), (.int .i64 0)]⟩ 86)).setCell ⟨w_.heap.size, 0, none⟩ (.int .i64 t9_0_0)).frozen? ⟨w_.heap.size, 1, none⟩ = false ∧
    cond (!t9_1) (
      ∃ (t14_0 : Int),
      (((w_.alloc (.cells ⟨[(.int .i64 0), (.int .i64 0)]⟩ 86)).setCell ⟨w_.heap.size, 0, none⟩ (.int .i64 t9_0_0)).setCell ⟨w_.heap.size, 1, none⟩ (.int .i64 t9_0_1)).cell? ⟨w_.heap.size, 0, none⟩ = some (.int .i64 t14_0) ∧
      ∃ (t14_1 : Int),
      (((w_.alloc (.cells ⟨[(.int .i64 0), (.int .i64 0)]⟩ 86)).setCell ⟨w_.heap.size, 0, none⟩ (.int .i64 t9_0_0)).setCell ⟨w_.heap.size, 1, none⟩ (.int .i64 t9_0_1)).cell? ⟨w_.heap.size, 1, none⟩ = some (.int .i64 t14_1) ∧
      (∃ u, (((w_.alloc (.cells ⟨[(.int .i64 0), (.int .i64 0)]⟩ 86)).setCell ⟨w_.heap.size, 0, none⟩ (.int .i64 t9_0_0)).setCell ⟨w_.heap.size, 1, none⟩ (.int .i64 t9_0_1)).cell? ⟨w.heap.size, 0, none⟩ = some u) ∧
      (((w_.alloc (.cells ⟨[(.int .i64 0), (.int .i64 0)]⟩ 86)).setCell ⟨w_.heap.size, 0, none⟩ (.int .i64 t9_0_0)).setCell ⟨w_.heap.size, 1, none⟩ (.int .i64 t9_0_1)).frozen? ⟨w.heap.size, 0, none⟩ = false ∧
      (∃ u, ((((w_.alloc (.cells ⟨[(.int .i64 0), (.int .i64 0)]⟩ 86)).setCell ⟨w_.heap.size, 0, none⟩ (.int .i64 t9_0_0)).setCell ⟨w_.heap.size, 1, none⟩ (.int .i64 t9_0_1)).setCell ⟨w.heap.size, 0, none⟩ (.int .i64 t14_0)).cell? ⟨w.heap.size, 1, none⟩ = some u) ∧
      ((((w_.alloc (.cells ⟨[(.int .i64 0), (.int .i64 0)]⟩ 86)).setCell ⟨w_.heap.size, 0, none⟩ (.int .i64 t9_0_0)).setCell ⟨w_.heap.size, 1, none⟩ (.int .i64 t9_0_1)).setCell ⟨w.heap.size, 0, none⟩ (.int .i64 t14_0)).frozen? ⟨w.heap.size, 1, none⟩ = false ∧
      ∃ (t2_0 : Int),
      (((((w_.alloc (.cells ⟨[(.int .i64 0), (.int .i64 0)]⟩ 86)).setCell ⟨w_.heap.size, 0, none⟩ (.int .i64 t9_0_0)).setCell ⟨w_.heap.size, 1, none⟩ (.int .i64 t9_0_1)).setCell ⟨w.heap.size, 0, none⟩ (.int .i64 t14_0)).setCell ⟨w.heap.size, 1, none⟩ (.int .i64 t14_1)).cell? ⟨w.heap.size, 0, none⟩ = some (.int .i64 t2_0) ∧
      ∃ (t2_1 : Int),
      (((((w_.alloc (.cells ⟨[(.int .i64 0), (.int .i64 0)]⟩ 86)).setCell ⟨w_.heap.size, 0, none⟩ (.int .i64 t9_0_0)).setCell ⟨w_.heap.size, 1, none⟩ (.int .i64 t9_0_1)).setCell ⟨w.heap.size, 0, none⟩ (.int .i64 t14_0)).setCell ⟨w.heap.size, 1, none⟩ (.int .i64 t14_1)).cell? ⟨w.heap.size, 1, none⟩ = some (.int .i64 t2_1) ∧
      R (.tuple ⟨[(.agg ⟨[(.int .i64 t2_0), (.int .i64 t2_1)]⟩), (.bool false)]⟩) (((((w_.alloc (.cells ⟨[(.int .i64 0), (.int .i64 0)]⟩ 86)).setCell ⟨w_.heap.size, 0, none⟩ (.int .i64 t9_0_0)).setCell ⟨w_.heap.size, 1, none⟩ (.int .i64 t9_0_1)).setCell ⟨w.heap.size, 0, none⟩ (.int .i64 t14_0)).setCell ⟨w.heap.size, 1, none⟩ (.int .i64 t14_1))
    ) (
      S36_k0 h ⟨w.heap.size, 0, none⟩ ⟨w_.heap.size, 0, none⟩ (((w_.alloc (.cells ⟨[(.int .i64 0), (.int .i64 0)]⟩ 86)).setCell ⟨w_.heap.size, 0, none⟩ (.int .i64 t9_0_0)).setCell ⟨w_.heap.size, 1, none⟩ (.int .i64 t9_0_1)) R
    )

theorem S36_eq (h : Option Addr) (w : World) (R : Value → World → Prop) : Eng.R Tryd.prog ⟨cal, S36_nx⟩ 36 S36_ann [] (Tryd.f36.body.getD .skip) (bodyQ Tryd.prog #[.cell 2 86, .tmp 3] R) (argE [(.pointer h)]) w = S36 h w R := by kernel_rfl
/-- A call of '(*carfax/heap.Heap).Pop', by its condition. -/
theorem S36_calls {h : Option Addr} {w : World} {R : Value → World → Prop} (hS : S36 h w R) : Ret Tryd.prog 36 [(.pointer h)] w R :=
  R_calls (C := ⟨cal, S36_nx⟩) cal_ok follows Tryd.func36 (c := Tryd.f36.body.getD .skip) (res := #[.cell 2 86, .tmp 3]) (n := 36) (by kernel_rfl) (by kernel_rfl) (by kernel_rfl) (by kernel_rfl) ((S36_eq h w R).mpr hS)

def S37_ann (p : List Nat) : Option LA :=
  none

def S37_nx (t : Nat) : Option (TypeId × TypeId) := none

def S37 (s_ : Option Addr) (x_0 : Int) (x_1 : Int) (x_2 : Int) (w : World) (R : Value → World → Prop) : Prop :=
  ∃ (t6 : Addr),
  s_ = some t6 ∧
  ∃ (t8 : Option Nat),
  (w.alloc (.cells ⟨[(.int .i64 x_0), (.int .i64 x_1), (.int .i64 x_2)]⟩ 58)).drew.cell? (t6.add 7) = some (.map t8) ∧
  ∃ (t10 : Int),
  (w.alloc (.cells ⟨[(.int .i64 x_0), (.int .i64 x_1), (.int .i64 x_2)]⟩ 58)).drew.cell? ⟨w.heap.size, 0, none⟩ = some (.int .i64 t10) ∧
  ∃ (t11_a : Option Addr) (t11_l : Nat) (t11_c : Nat) (w_ : World),
  (Instr.lookup 73 (.map t8) (.int .i64 t10) false).run Tryd.prog (w.alloc (.cells ⟨[(.int .i64 x_0), (.int .i64 x_1), (.int .i64 x_2)]⟩ 58)).drew = .ok (.slice t11_a t11_l t11_c) w_ ∧
  Calls Tryd.prog 54 ⟨[(.slice t11_a t11_l t11_c), (.func (.func 55) ⟨[]⟩ ⟨[(.pointer (some ⟨w.heap.size, 0, none⟩))]⟩)]⟩ w_ fun e w__1 =>
    ∃ (t13 : Bool),
    e = .returned (.bool t13) ∧
    R (.bool t13) w__1

theorem S37_eq (s_ : Option Addr) (x_0 : Int) (x_1 : Int) (x_2 : Int) (w : World) (R : Value → World → Prop) : Eng.R Tryd.prog ⟨cal, S37_nx⟩ 14 S37_ann [] (Tryd.f37.body.getD .skip) (bodyQ Tryd.prog #[.tmp 4] R) (argE [(.pointer s_), (.agg ⟨[(.int .i64 x_0), (.int .i64 x_1), (.int .i64 x_2)]⟩)]) w = S37 s_ x_0 x_1 x_2 w R := by kernel_rfl
/-- A call of '(*carfax/sipp.search).known', by its condition. -/
theorem S37_calls {s_ : Option Addr} {x_0 : Int} {x_1 : Int} {x_2 : Int} {w : World} {R : Value → World → Prop} (hS : S37 s_ x_0 x_1 x_2 w R) : Ret Tryd.prog 37 [(.pointer s_), (.agg ⟨[(.int .i64 x_0), (.int .i64 x_1), (.int .i64 x_2)]⟩)] w R :=
  R_calls (C := ⟨cal, S37_nx⟩) cal_ok follows Tryd.func37 (c := Tryd.f37.body.getD .skip) (res := #[.tmp 4]) (n := 14) (by kernel_rfl) (by kernel_rfl) (by kernel_rfl) (by kernel_rfl) ((S37_eq s_ x_0 x_1 x_2 w R).mpr hS)

def S38_ann (p : List Nat) : Option LA := match p with
  | [0, 1, 0, 1, 1, 1] => some ⟨[0, 3, 36, 37], [(5, .one .slice), (38, .one (.int .i64))]⟩
  | [0, 1, 1, 0, 0, 1, 1, 0, 0, 1, 0, 1, 1, 1] => some ⟨[0, 3, 7, 36, 37, 38, 47, 48], [(5, .one .slice), (49, .one (.int .i64))]⟩
  | _ => none

def S38_nx (t : Nat) : Option (TypeId × TypeId) := none

def S38_k7 (s_ : Option Addr) (x : Addr) (out_a : Option Addr) (out_l : Nat) (out_c : Nat) (c : Int) (w_ : Addr) (at_ : Int) (t36_a : Option Addr) (t36_l : Nat) (t36_c : Nat) (t37 : Int) (t38 : Int) (t47_a : Option Addr) (t47_l : Nat) (t47_c : Nat) (t48 : Int) (t49 : Int) (t76 : Bool) (w : World) (R : Value → World → Prop) (B1 : (Option Addr × Nat × Nat) × (Int) × Unit → World → Prop) (B2 : (Option Addr × Nat × Nat) × (Int) × Unit → World → Prop) : Prop :=
  cond t76 (
    ∃ (t81 : Int),
    w.cell? (w_.add 1) = some (.int .i64 t81) ∧
    ∃ (t84_a : Option Addr) (t84_l : Nat) (t84_c : Nat) (w__1 : World),
    (Builtin.append_ #[83, 83] 83 ⟨[(.slice out_a out_l out_c), (.slice (some ⟨w.heap.size, 0, none⟩) 1 1)]⟩).run Tryd.prog (w.alloc (.cells ⟨[(.int .i64 c), (.int .i64 at_), (.int .i64 t81)]⟩ 58)) = .ok (.slice t84_a t84_l t84_c) w__1 ∧
    B2 ((t84_a, t84_l, t84_c), (IntKind.i64.wrap (t49 + 1)), ()) w__1
  ) (
    B2 ((out_a, out_l, out_c), (IntKind.i64.wrap (t49 + 1)), ()) w
  )

def S38_k6 (s_ : Option Addr) (x : Addr) (out_a : Option Addr) (out_l : Nat) (out_c : Nat) (c : Int) (t36_a : Option Addr) (t36_l : Nat) (t36_c : Nat) (t37 : Int) (t38 : Int) (t47_a : Option Addr) (t47_l : Nat) (t47_c : Nat) (t48 : Int) (t49 : Int) (w : World) (R : Value → World → Prop) (B1 : (Option Addr × Nat × Nat) × (Int) × Unit → World → Prop) (B2 : (Option Addr × Nat × Nat) × (Int) × Unit → World → Prop) : Prop :=
  ∃ (t51 : Addr),
  t47_a = some t51 ∧
  0 ≤ (t49 : Int) ∧
  (t49 : Int) < ((t47_l : Nat) : Int) ∧
  ∃ (t52_0 : Int),
  w.cell? (t51.add (Int.toNat t49 * 2)) = some (.int .i64 t52_0) ∧
  ∃ (t52_1 : Int),
  w.cell? ((t51.add (Int.toNat t49 * 2)).add 1) = some (.int .i64 t52_1) ∧
  (∃ u, (w.alloc (.cells ⟨[(.int .i64 0), (.int .i64 0)]⟩ 33)).cell? ⟨w.heap.size, 0, none⟩ = some u) ∧
  (w.alloc (.cells ⟨[(.int .i64 0), (.int .i64 0)]⟩ 33)).frozen? ⟨w.heap.size, 0, none⟩ = false ∧
  (∃ u, ((w.alloc (.cells ⟨[(.int .i64 0), (.int .i64 0)]⟩ 33)).setCell ⟨w.heap.size, 0, none⟩ (.int .i64 t52_0)).cell? ⟨w.heap.size, 1, none⟩ = some u) ∧
  ((w.alloc (.cells ⟨[(.int .i64 0), (.int .i64 0)]⟩ 33)).setCell ⟨w.heap.size, 0, none⟩ (.int .i64 t52_0)).frozen? ⟨w.heap.size, 1, none⟩ = false ∧
  ∃ (t54 : Int),
  (((w.alloc (.cells ⟨[(.int .i64 0), (.int .i64 0)]⟩ 33)).setCell ⟨w.heap.size, 0, none⟩ (.int .i64 t52_0)).setCell ⟨w.heap.size, 1, none⟩ (.int .i64 t52_1)).cell? (x.add 1) = some (.int .i64 t54) ∧
  ∃ (t57 : Int),
  (((w.alloc (.cells ⟨[(.int .i64 0), (.int .i64 0)]⟩ 33)).setCell ⟨w.heap.size, 0, none⟩ (.int .i64 t52_0)).setCell ⟨w.heap.size, 1, none⟩ (.int .i64 t52_1)).cell? ⟨w.heap.size, 0, none⟩ = some (.int .i64 t57) ∧
  ∃ (t61 : Int),
  (((w.alloc (.cells ⟨[(.int .i64 0), (.int .i64 0)]⟩ 33)).setCell ⟨w.heap.size, 0, none⟩ (.int .i64 t52_0)).setCell ⟨w.heap.size, 1, none⟩ (.int .i64 t52_1)).cell? (x.add 2) = some (.int .i64 t61) ∧
  cond (decide (((if t57 > (IntKind.i64.wrap (t54 + 1)) then t57 else (IntKind.i64.wrap (t54 + 1))) : Int) ≤ t61)) (
    ∃ (t66 : Int),
    (((w.alloc (.cells ⟨[(.int .i64 0), (.int .i64 0)]⟩ 33)).setCell ⟨w.heap.size, 0, none⟩ (.int .i64 t52_0)).setCell ⟨w.heap.size, 1, none⟩ (.int .i64 t52_1)).cell? ⟨w.heap.size, 1, none⟩ = some (.int .i64 t66) ∧
    cond (decide (((if t57 > (IntKind.i64.wrap (t54 + 1)) then t57 else (IntKind.i64.wrap (t54 + 1))) : Int) < t66)) (
      ∃ (t72 : Addr),
      s_ = some t72 ∧
      ∃ (t74 : Int),
      (((w.alloc (.cells ⟨[(.int .i64 0), (.int .i64 0)]⟩ 33)).setCell ⟨w.heap.size, 0, none⟩ (.int .i64 t52_0)).setCell ⟨w.heap.size, 1, none⟩ (.int .i64 t52_1)).cell? (t72.add 6) = some (.int .i64 t74) ∧
      S38_k7 s_ x out_a out_l out_c c ⟨w.heap.size, 0, none⟩ (if t57 > (IntKind.i64.wrap (t54 + 1)) then t57 else (IntKind.i64.wrap (t54 + 1))) t36_a t36_l t36_c t37 t38 t47_a t47_l t47_c t48 t49 (decide (((if t57 > (IntKind.i64.wrap (t54 + 1)) then t57 else (IntKind.i64.wrap (t54 + 1))) : Int) ≤ t74)) (((w.alloc (.cells ⟨[(.int .i64 0), (.int .i64 0)]⟩ 33)).setCell ⟨w.heap.size, 0, none⟩ (.int .i64 t52_0)).setCell ⟨w.heap.size, 1, none⟩ (.int .i64 t52_1)) R B1 B2
    ) (
      S38_k7 s_ x out_a out_l out_c c ⟨w.heap.size, 0, none⟩ (if t57 > (IntKind.i64.wrap (t54 + 1)) then t57 else (IntKind.i64.wrap (t54 + 1))) t36_a t36_l t36_c t37 t38 t47_a t47_l t47_c t48 t49 false (((w.alloc (.cells ⟨[(.int .i64 0), (.int .i64 0)]⟩ 33)).setCell ⟨w.heap.size, 0, none⟩ (.int .i64 t52_0)).setCell ⟨w.heap.size, 1, none⟩ (.int .i64 t52_1)) R B1 B2
    )
  ) (
    S38_k7 s_ x out_a out_l out_c c ⟨w.heap.size, 0, none⟩ (if t57 > (IntKind.i64.wrap (t54 + 1)) then t57 else (IntKind.i64.wrap (t54 + 1))) t36_a t36_l t36_c t37 t38 t47_a t47_l t47_c t48 t49 false (((w.alloc (.cells ⟨[(.int .i64 0), (.int .i64 0)]⟩ 33)).setCell ⟨w.heap.size, 0, none⟩ (.int .i64 t52_0)).setCell ⟨w.heap.size, 1, none⟩ (.int .i64 t52_1)) R B1 B2
  )

def S38_L5 (s_ : Option Addr) (x : Addr) (out_a : Option Addr) (out_l : Nat) (out_c : Nat) (c : Int) (t36_a : Option Addr) (t36_l : Nat) (t36_c : Nat) (t37 : Int) (t38 : Int) (t47_a : Option Addr) (t47_l : Nat) (t47_c : Nat) (t48 : Int) (t49 : Int) (w : World) (R : Value → World → Prop) (B1 : (Option Addr × Nat × Nat) × (Int) × Unit → World → Prop) (B2 : (Option Addr × Nat × Nat) × (Int) × Unit → World → Prop) : Prop :=
  cond (decide ((t49 : Int) < t48)) (
    S38_k6 s_ x out_a out_l out_c c t36_a t36_l t36_c t37 t38 t47_a t47_l t47_c t48 t49 w R B1 B2
  ) (
    B1 ((out_a, out_l, out_c), (IntKind.i64.wrap (t38 + 1)), ()) w
  )

def S38_k4 (s_ : Option Addr) (x : Addr) (out_a : Option Addr) (out_l : Nat) (out_c : Nat) (t36_a : Option Addr) (t36_l : Nat) (t36_c : Nat) (t37 : Int) (t38 : Int) (w : World) (R : Value → World → Prop) (B1 : (Option Addr × Nat × Nat) × (Int) × Unit → World → Prop) : Prop :=
  ∃ (t40 : Addr),
  t36_a = some t40 ∧
  0 ≤ (t38 : Int) ∧
  (t38 : Int) < ((t36_l : Nat) : Int) ∧
  ∃ (t41 : Int),
  w.cell? (t40.add (Int.toNat t38 * 1)) = some (.int .i64 t41) ∧
  ∃ (t43 : Addr),
  s_ = some t43 ∧
  ∃ (t45 : Value),
  w.cell? (t43.add 2) = some t45 ∧
  AnyCall Tryd.prog ⟨cal, S38_nx⟩ t45 [(.int .i64 t41)] w fun e w_ =>
    ∃ (t47_a : Option Addr) (t47_l : Nat) (t47_c : Nat),
    e = .returned (.slice t47_a t47_l t47_c) ∧
    ∃ (I : (Option Addr × Nat × Nat) × (Int) × Unit → World → Prop) (μ : (Option Addr × Nat × Nat) × (Int) × Unit → World → Nat),
    I ((out_a, out_l, out_c), 0, ()) w_ ∧
    ∀ (J : Env) (s : (Option Addr × Nat × Nat) × (Int) × Unit) (w' : World), I s w' →
      S38_L5 s_ x s.1.1 s.1.2.1 s.1.2.2 t41 t36_a t36_l t36_c t37 t38 t47_a t47_l t47_c ((t47_l : Nat) : Int) s.2.1 w' R B1 (fun s' w'' => I s' w'' ∧ μ s' w'' < μ s w')

def S38_L3 (s_ : Option Addr) (x : Addr) (out_a : Option Addr) (out_l : Nat) (out_c : Nat) (t36_a : Option Addr) (t36_l : Nat) (t36_c : Nat) (t37 : Int) (t38 : Int) (w : World) (R : Value → World → Prop) (B1 : (Option Addr × Nat × Nat) × (Int) × Unit → World → Prop) : Prop :=
  cond (decide ((t38 : Int) < t37)) (
    S38_k4 s_ x out_a out_l out_c t36_a t36_l t36_c t37 t38 w R B1
  ) (
    R (.slice out_a out_l out_c) w
  )

def S38_k2 (s_ : Option Addr) (x : Addr) (out_a : Option Addr) (out_l : Nat) (out_c : Nat) (t36_a : Option Addr) (t36_l : Nat) (t36_c : Nat) (t37 : Int) (t38 : Int) (w : World) (R : Value → World → Prop) : Prop :=
  ∃ (I : (Option Addr × Nat × Nat) × (Int) × Unit → World → Prop) (μ : (Option Addr × Nat × Nat) × (Int) × Unit → World → Nat),
  I ((out_a, out_l, out_c), t38, ()) w ∧
  ∀ (J : Env) (s : (Option Addr × Nat × Nat) × (Int) × Unit) (w' : World), I s w' →
    S38_L3 s_ x s.1.1 s.1.2.1 s.1.2.2 t36_a t36_l t36_c t37 s.2.1 w' R (fun s' w'' => I s' w'' ∧ μ s' w'' < μ s w')

def S38_k1 (s_ : Option Addr) (x : Addr) (w : World) (R : Value → World → Prop) : Prop :=
  ∃ (t30 : Addr),
  s_ = some t30 ∧
  ∃ (t32_a : Option Addr) (t32_l : Nat) (t32_c : Nat),
  w.drew.cell? t30 = some (.slice t32_a t32_l t32_c) ∧
  ∃ (t34 : Int),
  w.drew.cell? x = some (.int .i64 t34) ∧
  ∃ (t35 : Addr),
  t32_a = some t35 ∧
  0 ≤ (t34 : Int) ∧
  (t34 : Int) < ((t32_l : Nat) : Int) ∧
  ∃ (t36_a : Option Addr) (t36_l : Nat) (t36_c : Nat),
  w.drew.cell? (t35.add (Int.toNat t34 * 1)) = some (.slice t36_a t36_l t36_c) ∧
  S38_k2 s_ x none 0 0 t36_a t36_l t36_c ((t36_l : Nat) : Int) 0 w.drew R

def S38_k0 (s_ : Option Addr) (x : Addr) (t28 : Bool) (w : World) (R : Value → World → Prop) : Prop :=
  cond t28 (
    R (.slice none 0 0) w
  ) (
    S38_k1 s_ x w R
  )

def S38 (s_ : Option Addr) (x_0 : Int) (x_1 : Int) (x_2 : Int) (w : World) (R : Value → World → Prop) : Prop :=
  ∃ (t14 : Addr),
  s_ = some t14 ∧
  ∃ (t12 : Int),
  (w.alloc (.cells ⟨[(.int .i64 x_0), (.int .i64 x_1), (.int .i64 x_2)]⟩ 58)).drew.cell? ⟨w.heap.size, 0, none⟩ = some (.int .i64 t12) ∧
  ∃ (t16 : Int),
  (w.alloc (.cells ⟨[(.int .i64 x_0), (.int .i64 x_1), (.int .i64 x_2)]⟩ 58)).drew.cell? (t14.add 4) = some (.int .i64 t16) ∧
  cond (!decide ((t12 : Int) = t16)) (
    ∃ (t20 : Addr),
    s_ = some t20 ∧
    ∃ (t22_a : Option Addr) (t22_l : Nat) (t22_c : Nat),
    (w.alloc (.cells ⟨[(.int .i64 x_0), (.int .i64 x_1), (.int .i64 x_2)]⟩ 58)).drew.cell? (t20.add 1) = some (.slice t22_a t22_l t22_c) ∧
    ∃ (t24 : Int),
    (w.alloc (.cells ⟨[(.int .i64 x_0), (.int .i64 x_1), (.int .i64 x_2)]⟩ 58)).drew.cell? ⟨w.heap.size, 0, none⟩ = some (.int .i64 t24) ∧
    ∃ (t25 : Addr),
    t22_a = some t25 ∧
    0 ≤ (t24 : Int) ∧
    (t24 : Int) < ((t22_l : Nat) : Int) ∧
    ∃ (t26 : Bool),
    (w.alloc (.cells ⟨[(.int .i64 x_0), (.int .i64 x_1), (.int .i64 x_2)]⟩ 58)).drew.cell? (t25.add (Int.toNat t24 * 1)) = some (.bool t26) ∧
    S38_k0 s_ ⟨w.heap.size, 0, none⟩ (!t26) (w.alloc (.cells ⟨[(.int .i64 x_0), (.int .i64 x_1), (.int .i64 x_2)]⟩ 58)).drew R
  ) (
    S38_k0 s_ ⟨w.heap.size, 0, none⟩ false (w.alloc (.cells ⟨[(.int .i64 x_0), (.int .i64 x_1), (.int .i64 x_2)]⟩ 58)).drew R
  )

theorem S38_eq (s_ : Option Addr) (x_0 : Int) (x_1 : Int) (x_2 : Int) (w : World) (R : Value → World → Prop) : Eng.R Tryd.prog ⟨cal, S38_nx⟩ 88 S38_ann [] (Tryd.f38.body.getD .skip) (bodyQ Tryd.prog #[.tmp 4] R) (argE [(.pointer s_), (.agg ⟨[(.int .i64 x_0), (.int .i64 x_1), (.int .i64 x_2)]⟩)]) w = S38 s_ x_0 x_1 x_2 w R := by kernel_rfl
/-- A call of '(*carfax/sipp.search).beyond', by its condition. -/
theorem S38_calls {s_ : Option Addr} {x_0 : Int} {x_1 : Int} {x_2 : Int} {w : World} {R : Value → World → Prop} (hS : S38 s_ x_0 x_1 x_2 w R) : Ret Tryd.prog 38 [(.pointer s_), (.agg ⟨[(.int .i64 x_0), (.int .i64 x_1), (.int .i64 x_2)]⟩)] w R :=
  R_calls (C := ⟨cal, S38_nx⟩) cal_ok follows Tryd.func38 (c := Tryd.f38.body.getD .skip) (res := #[.tmp 4]) (n := 88) (by kernel_rfl) (by kernel_rfl) (by kernel_rfl) (by kernel_rfl) ((S38_eq s_ x_0 x_1 x_2 w R).mpr hS)

def S39_ann (p : List Nat) : Option LA :=
  none

def S39_nx (t : Nat) : Option (TypeId × TypeId) := none

def S39 (s_ : Option Addr) (cell : Int) (moment : Int) (w : World) (R : Value → World → Prop) : Prop :=
  ∃ (t8 : Addr),
  s_ = some t8 ∧
  ∃ (t10 : Option Nat),
  (w.alloc (.cells ⟨[(.int .i64 moment)]⟩ 3)).cell? (t8.add 7) = some (.map t10) ∧
  ∃ (t12_a : Option Addr) (t12_l : Nat) (t12_c : Nat) (w_ : World),
  (Instr.lookup 73 (.map t10) (.int .i64 cell) false).run Tryd.prog (w.alloc (.cells ⟨[(.int .i64 moment)]⟩ 3)) = .ok (.slice t12_a t12_l t12_c) w_ ∧
  Calls Tryd.prog 54 ⟨[(.slice t12_a t12_l t12_c), (.func (.func 56) ⟨[]⟩ ⟨[(.pointer (some ⟨w.heap.size, 0, none⟩))]⟩)]⟩ w_ fun e w__1 =>
    ∃ (t14 : Bool),
    e = .returned (.bool t14) ∧
    R (.bool t14) w__1

theorem S39_eq (s_ : Option Addr) (cell : Int) (moment : Int) (w : World) (R : Value → World → Prop) : Eng.R Tryd.prog ⟨cal, S39_nx⟩ 15 S39_ann [] (Tryd.f39.body.getD .skip) (bodyQ Tryd.prog #[.tmp 6] R) (argE [(.pointer s_), (.int .i64 cell), (.int .i64 moment)]) w = S39 s_ cell moment w R := by kernel_rfl
/-- A call of '(*carfax/sipp.search).can', by its condition. -/
theorem S39_calls {s_ : Option Addr} {cell : Int} {moment : Int} {w : World} {R : Value → World → Prop} (hS : S39 s_ cell moment w R) : Ret Tryd.prog 39 [(.pointer s_), (.int .i64 cell), (.int .i64 moment)] w R :=
  R_calls (C := ⟨cal, S39_nx⟩) cal_ok follows Tryd.func39 (c := Tryd.f39.body.getD .skip) (res := #[.tmp 6]) (n := 15) (by kernel_rfl) (by kernel_rfl) (by kernel_rfl) (by kernel_rfl) ((S39_eq s_ cell moment w R).mpr hS)

def S41_ann (p : List Nat) : Option LA :=
  none

def S41_nx (t : Nat) : Option (TypeId × TypeId) := none

def S41_k1 (t13 : Bool) (w : World) (R : Value → World → Prop) : Prop :=
  cond t13 (
    R (.int .i64 3) w
  ) (
    R (.int .i64 0) w
  )

def S41_k0 (c : Int) (t6 : Bool) (w : World) (R : Value → World → Prop) : Prop :=
  cond t6 (
    R (.int .i64 2) w
  ) (
    cond (decide ((48 : Int) ≤ c)) (
      S41_k1 (decide ((c : Int) < 56)) w R
    ) (
      S41_k1 false w R
    )
  )

def S41 (c : Int) (w : World) (R : Value → World → Prop) : Prop :=
  cond (decide ((c : Int) = 35)) (
    R (.int .i64 1) w
  ) (
    cond (decide ((97 : Int) ≤ c)) (
      S41_k0 c (decide ((c : Int) ≤ 122)) w R
    ) (
      S41_k0 c false w R
    )
  )

theorem S41_eq (c : Int) (w : World) (R : Value → World → Prop) : Eng.R Tryd.prog ⟨cal, S41_nx⟩ 20 S41_ann [] (Tryd.f41.body.getD .skip) (bodyQ Tryd.prog #[.tmp 2] R) (argE [(.int .u8 c)]) w = S41 c w R := by kernel_rfl
/-- A call of 'carfax/floor.kind', by its condition. -/
theorem S41_calls {c : Int} {w : World} {R : Value → World → Prop} (hS : S41 c w R) : Ret Tryd.prog 41 [(.int .u8 c)] w R :=
  R_calls (C := ⟨cal, S41_nx⟩) cal_ok follows Tryd.func41 (c := Tryd.f41.body.getD .skip) (res := #[.tmp 2]) (n := 20) (by kernel_rfl) (by kernel_rfl) (by kernel_rfl) (by kernel_rfl) ((S41_eq c w R).mpr hS)

def S45_ann (p : List Nat) : Option LA := match p with
  | [0, 1, 0, 1, 1, 1] => some ⟨[1, 4, 13], [(5, .one (.int .i64)), (14, .one (.int .i64))]⟩
  | [0, 1, 0, 1, 1, 1, 1, 1] => some ⟨[5, 40, 41], [(8, .one .slice), (42, .one (.int .i64))]⟩
  | _ => none

def S45_nx (t : Nat) : Option (TypeId × TypeId) := none

def S45_k3 (f : Addr) (at_ : Addr) (n_ : Int) (i : Int) (r : Int) (t13 : Int) (t14 : Int) (w : World) (R : Value → World → Prop) (B1 : (Int) × (Int) × Unit → World → Prop) : Prop :=
  0 ≤ (r : Int) ∧
  (r : Int) < ((8 : Nat) : Int) ∧
  (∃ u, w.cell? (Addr.add at_ (Int.toNat r * 1)) = some u) ∧
  w.frozen? (Addr.add at_ (Int.toNat r * 1)) = false ∧
  B1 ((IntKind.i64.wrap (n_ + 1)), (IntKind.i64.wrap (t14 + 1)), ()) (w.setCell (Addr.add at_ (Int.toNat r * 1)) (.int .i64 (IntKind.i64.wrap (i + 1))))

def S45_k2 (f : Addr) (at_ : Addr) (n_ : Int) (i : Int) (t13 : Int) (t14 : Int) (w : World) (R : Value → World → Prop) (B1 : (Int) × (Int) × Unit → World → Prop) : Prop :=
  ∃ (t24 : ByteArray),
  w.cell? (f.add 2) = some (.string t24) ∧
  ∃ (t26 : UInt8),
  0 ≤ (i : Int) ∧
  (t24)[Int.toNat i]? = some t26 ∧
  0 ≤ ((IntKind.u8.wrap ((t26.toNat : Int) - 48)) : Int) ∧
  ((IntKind.u8.wrap ((t26.toNat : Int) - 48)) : Int) < ((8 : Nat) : Int) ∧
  ∃ (t30 : Int),
  w.cell? (Addr.add at_ (Int.toNat (IntKind.u8.wrap ((t26.toNat : Int) - 48)) * 1)) = some (.int .i64 t30) ∧
  cond (decide ((0 : Int) < t30)) (
    R (.tuple ⟨[(.slice none 0 0), (.bool false)]⟩) w
  ) (
    S45_k3 f at_ n_ i (IntKind.u8.wrap ((t26.toNat : Int) - 48)) t13 t14 w R B1
  )

def S45_k1 (f : Addr) (at_ : Addr) (n_ : Int) (t13 : Int) (t14 : Int) (w : World) (R : Value → World → Prop) (B1 : (Int) × (Int) × Unit → World → Prop) : Prop :=
  ∃ (t18 : ByteArray),
  w.cell? (f.add 2) = some (.string t18) ∧
  ∃ (t20 : UInt8),
  0 ≤ (t14 : Int) ∧
  (t18)[Int.toNat t14]? = some t20 ∧
  Calls Tryd.prog 41 ⟨[(.int .u8 (t20.toNat : Int))]⟩ w fun e w_ =>
    ∃ (t21 : Int),
    e = .returned (.int .i64 t21) ∧
    cond (!decide ((t21 : Int) = 3)) (
      B1 (n_, (IntKind.i64.wrap (t14 + 1)), ()) w_
    ) (
      S45_k2 f at_ n_ t14 t13 t14 w_ R B1
    )

def S45_k7 (n_ : Int) (out_a : Option Addr) (out_l : Nat) (out_c : Nat) (i : Int) (t40_a : Option Addr) (t40_l : Nat) (t40_c : Nat) (t41 : Int) (t42 : Int) (w : World) (R : Value → World → Prop) (B1 : (Option Addr × Nat × Nat) × (Int) × Unit → World → Prop) : Prop :=
  ∃ (t52_a : Option Addr) (t52_l : Nat) (t52_c : Nat) (w_ : World),
  (Builtin.append_ #[79, 79] 79 ⟨[(.slice out_a out_l out_c), (.slice (some ⟨w.heap.size, 0, none⟩) 1 1)]⟩).run Tryd.prog (w.alloc (.cells ⟨[(.int .i64 (IntKind.i64.wrap (i - 1)))]⟩ 3)) = .ok (.slice t52_a t52_l t52_c) w_ ∧
  B1 ((t52_a, t52_l, t52_c), (IntKind.i64.wrap (t42 + 1)), ()) w_

def S45_k6 (n_ : Int) (out_a : Option Addr) (out_l : Nat) (out_c : Nat) (t40_a : Option Addr) (t40_l : Nat) (t40_c : Nat) (t41 : Int) (t42 : Int) (w : World) (R : Value → World → Prop) (B1 : (Option Addr × Nat × Nat) × (Int) × Unit → World → Prop) : Prop :=
  ∃ (t44 : Addr),
  t40_a = some t44 ∧
  0 ≤ (t42 : Int) ∧
  (t42 : Int) < ((t40_l : Nat) : Int) ∧
  ∃ (t45 : Int),
  w.cell? (t44.add (Int.toNat t42 * 1)) = some (.int .i64 t45) ∧
  cond (decide ((t45 : Int) = 0)) (
    R (.tuple ⟨[(.slice none 0 0), (.bool false)]⟩) w
  ) (
    S45_k7 n_ out_a out_l out_c t45 t40_a t40_l t40_c t41 t42 w R B1
  )

def S45_k8 (n_ : Int) (out_a : Option Addr) (out_l : Nat) (out_c : Nat) (w : World) (R : Value → World → Prop) : Prop :=
  R (.tuple ⟨[(.slice out_a out_l out_c), (.bool (decide ((0 : Int) < n_)))]⟩) w

def S45_L5 (n_ : Int) (out_a : Option Addr) (out_l : Nat) (out_c : Nat) (t40_a : Option Addr) (t40_l : Nat) (t40_c : Nat) (t41 : Int) (t42 : Int) (w : World) (R : Value → World → Prop) (B1 : (Option Addr × Nat × Nat) × (Int) × Unit → World → Prop) : Prop :=
  cond (decide ((t42 : Int) < t41)) (
    S45_k6 n_ out_a out_l out_c t40_a t40_l t40_c t41 t42 w R B1
  ) (
    S45_k8 n_ out_a out_l out_c w R
  )

def S45_k4 (at_ : Addr) (n_ : Int) (w : World) (R : Value → World → Prop) : Prop :=
  0 ≤ (n_ : Int) ∧
  (n_ : Int) ≤ ((8 : Nat) : Int) ∧
  ∃ (I : (Option Addr × Nat × Nat) × (Int) × Unit → World → Prop) (μ : (Option Addr × Nat × Nat) × (Int) × Unit → World → Nat),
  I ((none, 0, 0), 0, ()) w ∧
  ∀ (J : Env) (s : (Option Addr × Nat × Nat) × (Int) × Unit) (w' : World), I s w' →
    S45_L5 n_ s.1.1 s.1.2.1 s.1.2.2 (slAddr (some at_) 8 0 1) ((Int.toNat n_) - 0) (8 - 0) ((((Int.toNat n_) - 0) : Nat) : Int) s.2.1 w' R (fun s' w'' => I s' w'' ∧ μ s' w'' < μ s w')

def S45_L0 (f : Addr) (at_ : Addr) (n_ : Int) (t13 : Int) (t14 : Int) (w : World) (R : Value → World → Prop) (B1 : (Int) × (Int) × Unit → World → Prop) : Prop :=
  cond (decide ((t14 : Int) < t13)) (
    S45_k1 f at_ n_ t13 t14 w R B1
  ) (
    S45_k4 at_ n_ w R
  )

def S45 (f_0 : Int) (f_1 : Int) (f_2 : ByteArray) (w : World) (R : Value → World → Prop) : Prop :=
  ∃ (t12 : ByteArray),
  ((w.alloc (.cells ⟨[(.int .i64 f_0), (.int .i64 f_1), (.string f_2)]⟩ 25)).alloc (.cells ⟨[(.int .i64 0), (.int .i64 0), (.int .i64 0), (.int .i64 0), (.int .i64 0), (.int .i64 0), (.int .i64 0), (.int .i64 0)]⟩ 117)).cell? ⟨w.heap.size, 2, none⟩ = some (.string t12) ∧
  ∃ (I : (Int) × (Int) × Unit → World → Prop) (μ : (Int) × (Int) × Unit → World → Nat),
  I (0, 0, ()) ((w.alloc (.cells ⟨[(.int .i64 f_0), (.int .i64 f_1), (.string f_2)]⟩ 25)).alloc (.cells ⟨[(.int .i64 0), (.int .i64 0), (.int .i64 0), (.int .i64 0), (.int .i64 0), (.int .i64 0), (.int .i64 0), (.int .i64 0)]⟩ 117)) ∧
  ∀ (J : Env) (s : (Int) × (Int) × Unit) (w' : World), I s w' →
    S45_L0 ⟨w.heap.size, 0, none⟩ ⟨(w.alloc (.cells ⟨[(.int .i64 f_0), (.int .i64 f_1), (.string f_2)]⟩ 25)).heap.size, 0, none⟩ s.1 ((ByteArray.size t12 : Nat) : Int) s.2.1 w' R (fun s' w'' => I s' w'' ∧ μ s' w'' < μ s w')

theorem S45_eq (f_0 : Int) (f_1 : Int) (f_2 : ByteArray) (w : World) (R : Value → World → Prop) : Eng.R Tryd.prog ⟨cal, S45_nx⟩ 57 S45_ann [] (Tryd.f45.body.getD .skip) (bodyQ Tryd.prog #[.tmp 2, .tmp 3] R) (argE [(.agg ⟨[(.int .i64 f_0), (.int .i64 f_1), (.string f_2)]⟩)]) w = S45 f_0 f_1 f_2 w R := by kernel_rfl
/-- A call of 'carfax/floor.docks', by its condition. -/
theorem S45_calls {f_0 : Int} {f_1 : Int} {f_2 : ByteArray} {w : World} {R : Value → World → Prop} (hS : S45 f_0 f_1 f_2 w R) : Ret Tryd.prog 45 [(.agg ⟨[(.int .i64 f_0), (.int .i64 f_1), (.string f_2)]⟩)] w R :=
  R_calls (C := ⟨cal, S45_nx⟩) cal_ok follows Tryd.func45 (c := Tryd.f45.body.getD .skip) (res := #[.tmp 2, .tmp 3]) (n := 57) (by kernel_rfl) (by kernel_rfl) (by kernel_rfl) (by kernel_rfl) ((S45_eq f_0 f_1 f_2 w R).mpr hS)

def S46_ann (p : List Nat) : Option LA := match p with
  | [0, 1, 0, 1, 1, 1] => some ⟨[1, 3, 12], [(4, .one .slice), (13, .one (.int .i64))]⟩
  | [0, 0, 1, 1, 1, 1, 1, 1] => some ⟨[1, 3], [(4, .one .slice)]⟩
  | [0, 1, 1, 1, 0, 1, 0, 0, 0, 1, 1, 1, 1, 1, 1] => some ⟨[1, 3, 50, 51], [(4, .one .slice), (52, .one (.int .i64))]⟩
  | _ => none

def S46_nx (t : Nat) : Option (TypeId × TypeId) := none

def S46_k1 (f : Addr) (left : Option Nat) (next_a : Option Addr) (next_l : Nat) (next_c : Nat) (t12 : Int) (t13 : Int) (w : World) (R : Value → World → Prop) (B1 : (Option Addr × Nat × Nat) × (Int) × Unit → World → Prop) : Prop :=
  ∃ (t17 : ByteArray),
  w.cell? (f.add 2) = some (.string t17) ∧
  ∃ (t19 : UInt8),
  0 ≤ (t13 : Int) ∧
  (t17)[Int.toNat t13]? = some t19 ∧
  Calls Tryd.prog 41 ⟨[(.int .u8 (t19.toNat : Int))]⟩ w fun e w_ =>
    ∃ (t20 : Int),
    e = .returned (.int .i64 t20) ∧
    cond (decide ((t20 : Int) = 2)) (
      ∃ (w__1 : World),
      (Instr.mapUpdate 118 (.map left) (.int .i64 t13) (.bool true)).run Tryd.prog w_ = .ok () w__1 ∧
      B1 (((some ⟨w__1.heap.size, 0, none⟩), 1, 1), (IntKind.i64.wrap (t13 + 1)), ()) (w__1.alloc (.cells ⟨[(.int .i64 t13)]⟩ 3))
    ) (
      B1 ((next_a, next_l, next_c), (IntKind.i64.wrap (t13 + 1)), ()) w_
    )

def S46_k7 (f : Addr) (left : Option Nat) (next_a : Option Addr) (next_l : Nat) (next_c : Nat) (t50_a : Option Addr) (t50_l : Nat) (t50_c : Nat) (t51 : Int) (t52 : Int) (w : World) (R : Value → World → Prop) (B1 : (Option Addr × Nat × Nat) × Unit → World → Prop) (B2 : (Option Addr × Nat × Nat) × (Int) × Unit → World → Prop) : Prop :=
  ∃ (t54 : Addr),
  t50_a = some t54 ∧
  0 ≤ (t52 : Int) ∧
  (t52 : Int) < ((t50_l : Nat) : Int) ∧
  ∃ (t55 : Int),
  w.cell? (t54.add (Int.toNat t52 * 1)) = some (.int .i64 t55) ∧
  ∃ (t58 : Bool) (w_ : World),
  (Instr.lookup 118 (.map left) (.int .i64 t55) false).run Tryd.prog w = .ok (.bool t58) w_ ∧
  cond t58 (
    ∃ (w__1 : World),
    (Builtin.delete_ #[118, 3] 0 ⟨[(.map left), (.int .i64 t55)]⟩).run Tryd.prog w_ = .ok (.tuple ⟨[]⟩) w__1 ∧
    ∃ (t64_a : Option Addr) (t64_l : Nat) (t64_c : Nat) (w__2 : World),
    (Builtin.append_ #[79, 79] 79 ⟨[(.slice next_a next_l next_c), (.slice (some ⟨w__1.heap.size, 0, none⟩) 1 1)]⟩).run Tryd.prog (w__1.alloc (.cells ⟨[(.int .i64 t55)]⟩ 3)) = .ok (.slice t64_a t64_l t64_c) w__2 ∧
    B2 ((t64_a, t64_l, t64_c), (IntKind.i64.wrap (t52 + 1)), ()) w__2
  ) (
    B2 ((next_a, next_l, next_c), (IntKind.i64.wrap (t52 + 1)), ()) w_
  )

def S46_L6 (f : Addr) (left : Option Nat) (next_a : Option Addr) (next_l : Nat) (next_c : Nat) (t50_a : Option Addr) (t50_l : Nat) (t50_c : Nat) (t51 : Int) (t52 : Int) (w : World) (R : Value → World → Prop) (B1 : (Option Addr × Nat × Nat) × Unit → World → Prop) (B2 : (Option Addr × Nat × Nat) × (Int) × Unit → World → Prop) : Prop :=
  cond (decide ((t52 : Int) < t51)) (
    S46_k7 f left next_a next_l next_c t50_a t50_l t50_c t51 t52 w R B1 B2
  ) (
    B1 ((next_a, next_l, next_c), ()) w
  )

def S46_k5 (f : Addr) (left : Option Nat) (next_a : Option Addr) (next_l : Nat) (next_c : Nat) (w : World) (R : Value → World → Prop) (B1 : (Option Addr × Nat × Nat) × Unit → World → Prop) : Prop :=
  ∃ (t41 : Addr),
  next_a = some t41 ∧
  0 ≤ ((IntKind.i64.wrap (((next_l : Nat) : Int) - 1)) : Int) ∧
  ((IntKind.i64.wrap (((next_l : Nat) : Int) - 1)) : Int) < ((next_l : Nat) : Int) ∧
  ∃ (t42 : Int),
  w.cell? (t41.add (Int.toNat (IntKind.i64.wrap (((next_l : Nat) : Int) - 1)) * 1)) = some (.int .i64 t42) ∧
  0 ≤ ((IntKind.i64.wrap (((next_l : Nat) : Int) - 1)) : Int) ∧
  ((IntKind.i64.wrap (((next_l : Nat) : Int) - 1)) : Int) ≤ ((next_c : Nat) : Int) ∧
  ∃ (t48_0 : Int),
  w.cell? f = some (.int .i64 t48_0) ∧
  ∃ (t48_1 : Int),
  w.cell? (f.add 1) = some (.int .i64 t48_1) ∧
  ∃ (t48_2 : ByteArray),
  w.cell? (f.add 2) = some (.string t48_2) ∧
  Calls Tryd.prog 47 ⟨[(.agg ⟨[(.int .i64 t48_0), (.int .i64 t48_1), (.string t48_2)]⟩), (.int .i64 t42)]⟩ w fun e w_ =>
    ∃ (t50_a : Option Addr) (t50_l : Nat) (t50_c : Nat),
    e = .returned (.slice t50_a t50_l t50_c) ∧
    ∃ (I : (Option Addr × Nat × Nat) × (Int) × Unit → World → Prop) (μ : (Option Addr × Nat × Nat) × (Int) × Unit → World → Nat),
    I (((slAddr next_a next_c 0 1), ((Int.toNat (IntKind.i64.wrap (((next_l : Nat) : Int) - 1))) - 0), (next_c - 0)), 0, ()) w_ ∧
    ∀ (J : Env) (s : (Option Addr × Nat × Nat) × (Int) × Unit) (w' : World), I s w' →
      S46_L6 f left s.1.1 s.1.2.1 s.1.2.2 t50_a t50_l t50_c ((t50_l : Nat) : Int) s.2.1 w' R B1 (fun s' w'' => I s' w'' ∧ μ s' w'' < μ s w')

def S46_k8 (left : Option Nat) (w : World) (R : Value → World → Prop) : Prop :=
  ∃ (t67 : Int) (w_ : World),
  (Builtin.len_ #[118] 3 ⟨[(.map left)]⟩).run Tryd.prog w = .ok (.int .i64 t67) w_ ∧
  R (.bool (decide ((t67 : Int) = 0))) w_

def S46_L4 (f : Addr) (left : Option Nat) (next_a : Option Addr) (next_l : Nat) (next_c : Nat) (w : World) (R : Value → World → Prop) (B1 : (Option Addr × Nat × Nat) × Unit → World → Prop) : Prop :=
  cond (decide ((0 : Int) < ((next_l : Nat) : Int))) (
    S46_k5 f left next_a next_l next_c w R B1
  ) (
    S46_k8 left w R
  )

def S46_k3 (f : Addr) (left : Option Nat) (next_a : Option Addr) (next_l : Nat) (next_c : Nat) (w : World) (R : Value → World → Prop) : Prop :=
  ∃ (t32 : Addr),
  next_a = some t32 ∧
  0 ≤ (0 : Int) ∧
  (0 : Int) < ((next_l : Nat) : Int) ∧
  ∃ (t33 : Int),
  w.cell? (t32.add (Int.toNat 0 * 1)) = some (.int .i64 t33) ∧
  ∃ (w_ : World),
  (Builtin.delete_ #[118, 3] 0 ⟨[(.map left), (.int .i64 t33)]⟩).run Tryd.prog w = .ok (.tuple ⟨[]⟩) w_ ∧
  ∃ (I : (Option Addr × Nat × Nat) × Unit → World → Prop) (μ : (Option Addr × Nat × Nat) × Unit → World → Nat),
  I ((next_a, next_l, next_c), ()) w_ ∧
  ∀ (J : Env) (s : (Option Addr × Nat × Nat) × Unit) (w' : World), I s w' →
    S46_L4 f left s.1.1 s.1.2.1 s.1.2.2 w' R (fun s' w'' => I s' w'' ∧ μ s' w'' < μ s w')

def S46_k2 (f : Addr) (left : Option Nat) (next_a : Option Addr) (next_l : Nat) (next_c : Nat) (w : World) (R : Value → World → Prop) : Prop :=
  cond (decide ((((next_l : Nat) : Int) : Int) = 0)) (
    R (.bool false) w
  ) (
    S46_k3 f left next_a next_l next_c w R
  )

def S46_L0 (f : Addr) (left : Option Nat) (next_a : Option Addr) (next_l : Nat) (next_c : Nat) (t12 : Int) (t13 : Int) (w : World) (R : Value → World → Prop) (B1 : (Option Addr × Nat × Nat) × (Int) × Unit → World → Prop) : Prop :=
  cond (decide ((t13 : Int) < t12)) (
    S46_k1 f left next_a next_l next_c t12 t13 w R B1
  ) (
    S46_k2 f left next_a next_l next_c w R
  )

def S46 (f_0 : Int) (f_1 : Int) (f_2 : ByteArray) (w : World) (R : Value → World → Prop) : Prop :=
  ∃ (t11 : ByteArray),
  ((w.alloc (.cells ⟨[(.int .i64 f_0), (.int .i64 f_1), (.string f_2)]⟩ 25)).alloc (.map #[] 0)).cell? ⟨w.heap.size, 2, none⟩ = some (.string t11) ∧
  ∃ (I : (Option Addr × Nat × Nat) × (Int) × Unit → World → Prop) (μ : (Option Addr × Nat × Nat) × (Int) × Unit → World → Nat),
  I ((none, 0, 0), 0, ()) ((w.alloc (.cells ⟨[(.int .i64 f_0), (.int .i64 f_1), (.string f_2)]⟩ 25)).alloc (.map #[] 0)) ∧
  ∀ (J : Env) (s : (Option Addr × Nat × Nat) × (Int) × Unit) (w' : World), I s w' →
    S46_L0 ⟨w.heap.size, 0, none⟩ (some (w.alloc (.cells ⟨[(.int .i64 f_0), (.int .i64 f_1), (.string f_2)]⟩ 25)).heap.size) s.1.1 s.1.2.1 s.1.2.2 ((ByteArray.size t11 : Nat) : Int) s.2.1 w' R (fun s' w'' => I s' w'' ∧ μ s' w'' < μ s w')

theorem S46_eq (f_0 : Int) (f_1 : Int) (f_2 : ByteArray) (w : World) (R : Value → World → Prop) : Eng.R Tryd.prog ⟨cal, S46_nx⟩ 69 S46_ann [] (Tryd.f46.body.getD .skip) (bodyQ Tryd.prog #[.tmp 2] R) (argE [(.agg ⟨[(.int .i64 f_0), (.int .i64 f_1), (.string f_2)]⟩)]) w = S46 f_0 f_1 f_2 w R := by kernel_rfl
/-- A call of 'carfax/floor.joined', by its condition. -/
theorem S46_calls {f_0 : Int} {f_1 : Int} {f_2 : ByteArray} {w : World} {R : Value → World → Prop} (hS : S46 f_0 f_1 f_2 w R) : Ret Tryd.prog 46 [(.agg ⟨[(.int .i64 f_0), (.int .i64 f_1), (.string f_2)]⟩)] w R :=
  R_calls (C := ⟨cal, S46_nx⟩) cal_ok follows Tryd.func46 (c := Tryd.f46.body.getD .skip) (res := #[.tmp 2]) (n := 69) (by kernel_rfl) (by kernel_rfl) (by kernel_rfl) (by kernel_rfl) ((S46_eq f_0 f_1 f_2 w R).mpr hS)

def S47_ann (p : List Nat) : Option LA := match p with
  | [0, 1, 0, 1, 1, 1] => some ⟨[2, 5, 6, 24], [(7, .one .slice), (25, .one (.int .i64))]⟩
  | _ => none

def S47_nx (t : Nat) : Option (TypeId × TypeId) := none

def S47_k4 (f : Addr) (x : Int) (y : Int) (out_a : Option Addr) (out_l : Nat) (out_c : Nat) (p : Int) (q : Int) (t24_0 : Int) (t24_1 : Int) (t24_2 : Int) (t24_3 : Int) (t24_4 : Int) (t24_5 : Int) (t24_6 : Int) (t24_7 : Int) (t25 : Int) (t53 : Bool) (w : World) (R : Value → World → Prop) (B1 : (Option Addr × Nat × Nat) × (Int) × Unit → World → Prop) : Prop :=
  cond t53 (
    ∃ (t57 : Int),
    w.cell? f = some (.int .i64 t57) ∧
    ∃ (t62_a : Option Addr) (t62_l : Nat) (t62_c : Nat) (w_ : World),
    (Builtin.append_ #[79, 79] 79 ⟨[(.slice out_a out_l out_c), (.slice (some ⟨w.heap.size, 0, none⟩) 1 1)]⟩).run Tryd.prog (w.alloc (.cells ⟨[(.int .i64 (IntKind.i64.wrap ((IntKind.i64.wrap (q * t57)) + p)))]⟩ 3)) = .ok (.slice t62_a t62_l t62_c) w_ ∧
    B1 ((t62_a, t62_l, t62_c), (IntKind.i64.wrap (t25 + 1)), ()) w_
  ) (
    B1 ((out_a, out_l, out_c), (IntKind.i64.wrap (t25 + 1)), ()) w
  )

def S47_k3 (f : Addr) (x : Int) (y : Int) (out_a : Option Addr) (out_l : Nat) (out_c : Nat) (p : Int) (q : Int) (t24_0 : Int) (t24_1 : Int) (t24_2 : Int) (t24_3 : Int) (t24_4 : Int) (t24_5 : Int) (t24_6 : Int) (t24_7 : Int) (t25 : Int) (w : World) (R : Value → World → Prop) (B1 : (Option Addr × Nat × Nat) × (Int) × Unit → World → Prop) : Prop :=
  cond (decide ((0 : Int) ≤ p)) (
    ∃ (t41 : Int),
    w.cell? f = some (.int .i64 t41) ∧
    cond (decide ((p : Int) < t41)) (
      cond (decide ((0 : Int) ≤ q)) (
        ∃ (t51 : Int),
        w.cell? (f.add 1) = some (.int .i64 t51) ∧
        S47_k4 f x y out_a out_l out_c p q t24_0 t24_1 t24_2 t24_3 t24_4 t24_5 t24_6 t24_7 t25 (decide ((q : Int) < t51)) w R B1
      ) (
        S47_k4 f x y out_a out_l out_c p q t24_0 t24_1 t24_2 t24_3 t24_4 t24_5 t24_6 t24_7 t25 false w R B1
      )
    ) (
      S47_k4 f x y out_a out_l out_c p q t24_0 t24_1 t24_2 t24_3 t24_4 t24_5 t24_6 t24_7 t25 false w R B1
    )
  ) (
    S47_k4 f x y out_a out_l out_c p q t24_0 t24_1 t24_2 t24_3 t24_4 t24_5 t24_6 t24_7 t25 false w R B1
  )

def S47_k2 (f : Addr) (x : Int) (y : Int) (out_a : Option Addr) (out_l : Nat) (out_c : Nat) (t24_0 : Int) (t24_1 : Int) (t24_2 : Int) (t24_3 : Int) (t24_4 : Int) (t24_5 : Int) (t24_6 : Int) (t24_7 : Int) (t25 : Int) (w : World) (R : Value → World → Prop) (B1 : (Option Addr × Nat × Nat) × (Int) × Unit → World → Prop) : Prop :=
  0 ≤ (t25 : Int) ∧
  (t25 : Int) < ((4 : Nat) : Int) ∧
  (t25 = ((0 : Nat) : Int) →
    (∃ u, (w.alloc (.cells ⟨[(.int .i64 0), (.int .i64 0)]⟩ 119)).cell? ⟨w.heap.size, 0, none⟩ = some u) ∧
    (w.alloc (.cells ⟨[(.int .i64 0), (.int .i64 0)]⟩ 119)).frozen? ⟨w.heap.size, 0, none⟩ = false ∧
    (∃ u, ((w.alloc (.cells ⟨[(.int .i64 0), (.int .i64 0)]⟩ 119)).setCell ⟨w.heap.size, 0, none⟩ (.int .i64 t24_0)).cell? ⟨w.heap.size, 1, none⟩ = some u) ∧
    ((w.alloc (.cells ⟨[(.int .i64 0), (.int .i64 0)]⟩ 119)).setCell ⟨w.heap.size, 0, none⟩ (.int .i64 t24_0)).frozen? ⟨w.heap.size, 1, none⟩ = false ∧
    0 ≤ (0 : Int) ∧
    (0 : Int) < ((2 : Nat) : Int) ∧
    0 ≤ (1 : Int) ∧
    (1 : Int) < ((2 : Nat) : Int) ∧
    (
      ∃ (t30 : Int),
      (((w.alloc (.cells ⟨[(.int .i64 0), (.int .i64 0)]⟩ 119)).setCell ⟨w.heap.size, 0, none⟩ (.int .i64 t24_0)).setCell ⟨w.heap.size, 1, none⟩ (.int .i64 t24_1)).drew.cell? (Addr.add ⟨w.heap.size, 0, none⟩ (Int.toNat 0 * 1)) = some (.int .i64 t30) ∧
      ∃ (t34 : Int),
      (((w.alloc (.cells ⟨[(.int .i64 0), (.int .i64 0)]⟩ 119)).setCell ⟨w.heap.size, 0, none⟩ (.int .i64 t24_0)).setCell ⟨w.heap.size, 1, none⟩ (.int .i64 t24_1)).drew.cell? (Addr.add ⟨w.heap.size, 0, none⟩ (Int.toNat 1 * 1)) = some (.int .i64 t34) ∧
      S47_k3 f x y out_a out_l out_c (IntKind.i64.wrap (x + t30)) (IntKind.i64.wrap (y + t34)) t24_0 t24_1 t24_2 t24_3 t24_4 t24_5 t24_6 t24_7 t25 (((w.alloc (.cells ⟨[(.int .i64 0), (.int .i64 0)]⟩ 119)).setCell ⟨w.heap.size, 0, none⟩ (.int .i64 t24_0)).setCell ⟨w.heap.size, 1, none⟩ (.int .i64 t24_1)).drew R B1
    ) ∧
    (
      ∃ (t34_1 : Int),
      (((w.alloc (.cells ⟨[(.int .i64 0), (.int .i64 0)]⟩ 119)).setCell ⟨w.heap.size, 0, none⟩ (.int .i64 t24_0)).setCell ⟨w.heap.size, 1, none⟩ (.int .i64 t24_1)).drew.cell? (Addr.add ⟨w.heap.size, 0, none⟩ (Int.toNat 1 * 1)) = some (.int .i64 t34_1) ∧
      ∃ (t30_1 : Int),
      (((w.alloc (.cells ⟨[(.int .i64 0), (.int .i64 0)]⟩ 119)).setCell ⟨w.heap.size, 0, none⟩ (.int .i64 t24_0)).setCell ⟨w.heap.size, 1, none⟩ (.int .i64 t24_1)).drew.cell? (Addr.add ⟨w.heap.size, 0, none⟩ (Int.toNat 0 * 1)) = some (.int .i64 t30_1) ∧
      S47_k3 f x y out_a out_l out_c (IntKind.i64.wrap (x + t30_1)) (IntKind.i64.wrap (y + t34_1)) t24_0 t24_1 t24_2 t24_3 t24_4 t24_5 t24_6 t24_7 t25 (((w.alloc (.cells ⟨[(.int .i64 0), (.int .i64 0)]⟩ 119)).setCell ⟨w.heap.size, 0, none⟩ (.int .i64 t24_0)).setCell ⟨w.heap.size, 1, none⟩ (.int .i64 t24_1)).drew R B1
    )) ∧
  (t25 = ((1 : Nat) : Int) →
    (∃ u, (w.alloc (.cells ⟨[(.int .i64 0), (.int .i64 0)]⟩ 119)).cell? ⟨w.heap.size, 0, none⟩ = some u) ∧
    (w.alloc (.cells ⟨[(.int .i64 0), (.int .i64 0)]⟩ 119)).frozen? ⟨w.heap.size, 0, none⟩ = false ∧
    (∃ u, ((w.alloc (.cells ⟨[(.int .i64 0), (.int .i64 0)]⟩ 119)).setCell ⟨w.heap.size, 0, none⟩ (.int .i64 t24_2)).cell? ⟨w.heap.size, 1, none⟩ = some u) ∧
    ((w.alloc (.cells ⟨[(.int .i64 0), (.int .i64 0)]⟩ 119)).setCell ⟨w.heap.size, 0, none⟩ (.int .i64 t24_2)).frozen? ⟨w.heap.size, 1, none⟩ = false ∧
    0 ≤ (0 : Int) ∧
    (0 : Int) < ((2 : Nat) : Int) ∧
    0 ≤ (1 : Int) ∧
    (1 : Int) < ((2 : Nat) : Int) ∧
    (
      ∃ (t30_2 : Int),
      (((w.alloc (.cells ⟨[(.int .i64 0), (.int .i64 0)]⟩ 119)).setCell ⟨w.heap.size, 0, none⟩ (.int .i64 t24_2)).setCell ⟨w.heap.size, 1, none⟩ (.int .i64 t24_3)).drew.cell? (Addr.add ⟨w.heap.size, 0, none⟩ (Int.toNat 0 * 1)) = some (.int .i64 t30_2) ∧
      ∃ (t34_2 : Int),
      (((w.alloc (.cells ⟨[(.int .i64 0), (.int .i64 0)]⟩ 119)).setCell ⟨w.heap.size, 0, none⟩ (.int .i64 t24_2)).setCell ⟨w.heap.size, 1, none⟩ (.int .i64 t24_3)).drew.cell? (Addr.add ⟨w.heap.size, 0, none⟩ (Int.toNat 1 * 1)) = some (.int .i64 t34_2) ∧
      S47_k3 f x y out_a out_l out_c (IntKind.i64.wrap (x + t30_2)) (IntKind.i64.wrap (y + t34_2)) t24_0 t24_1 t24_2 t24_3 t24_4 t24_5 t24_6 t24_7 t25 (((w.alloc (.cells ⟨[(.int .i64 0), (.int .i64 0)]⟩ 119)).setCell ⟨w.heap.size, 0, none⟩ (.int .i64 t24_2)).setCell ⟨w.heap.size, 1, none⟩ (.int .i64 t24_3)).drew R B1
    ) ∧
    (
      ∃ (t34_3 : Int),
      (((w.alloc (.cells ⟨[(.int .i64 0), (.int .i64 0)]⟩ 119)).setCell ⟨w.heap.size, 0, none⟩ (.int .i64 t24_2)).setCell ⟨w.heap.size, 1, none⟩ (.int .i64 t24_3)).drew.cell? (Addr.add ⟨w.heap.size, 0, none⟩ (Int.toNat 1 * 1)) = some (.int .i64 t34_3) ∧
      ∃ (t30_3 : Int),
      (((w.alloc (.cells ⟨[(.int .i64 0), (.int .i64 0)]⟩ 119)).setCell ⟨w.heap.size, 0, none⟩ (.int .i64 t24_2)).setCell ⟨w.heap.size, 1, none⟩ (.int .i64 t24_3)).drew.cell? (Addr.add ⟨w.heap.size, 0, none⟩ (Int.toNat 0 * 1)) = some (.int .i64 t30_3) ∧
      S47_k3 f x y out_a out_l out_c (IntKind.i64.wrap (x + t30_3)) (IntKind.i64.wrap (y + t34_3)) t24_0 t24_1 t24_2 t24_3 t24_4 t24_5 t24_6 t24_7 t25 (((w.alloc (.cells ⟨[(.int .i64 0), (.int .i64 0)]⟩ 119)).setCell ⟨w.heap.size, 0, none⟩ (.int .i64 t24_2)).setCell ⟨w.heap.size, 1, none⟩ (.int .i64 t24_3)).drew R B1
    )) ∧
  (t25 = ((2 : Nat) : Int) →
    (∃ u, (w.alloc (.cells ⟨[(.int .i64 0), (.int .i64 0)]⟩ 119)).cell? ⟨w.heap.size, 0, none⟩ = some u) ∧
    (w.alloc (.cells ⟨[(.int .i64 0), (.int .i64 0)]⟩ 119)).frozen? ⟨w.heap.size, 0, none⟩ = false ∧
    (∃ u, ((w.alloc (.cells ⟨[(.int .i64 0), (.int .i64 0)]⟩ 119)).setCell ⟨w.heap.size, 0, none⟩ (.int .i64 t24_4)).cell? ⟨w.heap.size, 1, none⟩ = some u) ∧
    ((w.alloc (.cells ⟨[(.int .i64 0), (.int .i64 0)]⟩ 119)).setCell ⟨w.heap.size, 0, none⟩ (.int .i64 t24_4)).frozen? ⟨w.heap.size, 1, none⟩ = false ∧
    0 ≤ (0 : Int) ∧
    (0 : Int) < ((2 : Nat) : Int) ∧
    0 ≤ (1 : Int) ∧
    (1 : Int) < ((2 : Nat) : Int) ∧
    (
      ∃ (t30_4 : Int),
      (((w.alloc (.cells ⟨[(.int .i64 0), (.int .i64 0)]⟩ 119)).setCell ⟨w.heap.size, 0, none⟩ (.int .i64 t24_4)).setCell ⟨w.heap.size, 1, none⟩ (.int .i64 t24_5)).drew.cell? (Addr.add ⟨w.heap.size, 0, none⟩ (Int.toNat 0 * 1)) = some (.int .i64 t30_4) ∧
      ∃ (t34_4 : Int),
      (((w.alloc (.cells ⟨[(.int .i64 0), (.int .i64 0)]⟩ 119)).setCell ⟨w.heap.size, 0, none⟩ (.int .i64 t24_4)).setCell ⟨w.heap.size, 1, none⟩ (.int .i64 t24_5)).drew.cell? (Addr.add ⟨w.heap.size, 0, none⟩ (Int.toNat 1 * 1)) = some (.int .i64 t34_4) ∧
      S47_k3 f x y out_a out_l out_c (IntKind.i64.wrap (x + t30_4)) (IntKind.i64.wrap (y + t34_4)) t24_0 t24_1 t24_2 t24_3 t24_4 t24_5 t24_6 t24_7 t25 (((w.alloc (.cells ⟨[(.int .i64 0), (.int .i64 0)]⟩ 119)).setCell ⟨w.heap.size, 0, none⟩ (.int .i64 t24_4)).setCell ⟨w.heap.size, 1, none⟩ (.int .i64 t24_5)).drew R B1
    ) ∧
    (
      ∃ (t34_5 : Int),
      (((w.alloc (.cells ⟨[(.int .i64 0), (.int .i64 0)]⟩ 119)).setCell ⟨w.heap.size, 0, none⟩ (.int .i64 t24_4)).setCell ⟨w.heap.size, 1, none⟩ (.int .i64 t24_5)).drew.cell? (Addr.add ⟨w.heap.size, 0, none⟩ (Int.toNat 1 * 1)) = some (.int .i64 t34_5) ∧
      ∃ (t30_5 : Int),
      (((w.alloc (.cells ⟨[(.int .i64 0), (.int .i64 0)]⟩ 119)).setCell ⟨w.heap.size, 0, none⟩ (.int .i64 t24_4)).setCell ⟨w.heap.size, 1, none⟩ (.int .i64 t24_5)).drew.cell? (Addr.add ⟨w.heap.size, 0, none⟩ (Int.toNat 0 * 1)) = some (.int .i64 t30_5) ∧
      S47_k3 f x y out_a out_l out_c (IntKind.i64.wrap (x + t30_5)) (IntKind.i64.wrap (y + t34_5)) t24_0 t24_1 t24_2 t24_3 t24_4 t24_5 t24_6 t24_7 t25 (((w.alloc (.cells ⟨[(.int .i64 0), (.int .i64 0)]⟩ 119)).setCell ⟨w.heap.size, 0, none⟩ (.int .i64 t24_4)).setCell ⟨w.heap.size, 1, none⟩ (.int .i64 t24_5)).drew R B1
    )) ∧
  (t25 = ((3 : Nat) : Int) →
    (∃ u, (w.alloc (.cells ⟨[(.int .i64 0), (.int .i64 0)]⟩ 119)).cell? ⟨w.heap.size, 0, none⟩ = some u) ∧
    (w.alloc (.cells ⟨[(.int .i64 0), (.int .i64 0)]⟩ 119)).frozen? ⟨w.heap.size, 0, none⟩ = false ∧
    (∃ u, ((w.alloc (.cells ⟨[(.int .i64 0), (.int .i64 0)]⟩ 119)).setCell ⟨w.heap.size, 0, none⟩ (.int .i64 t24_6)).cell? ⟨w.heap.size, 1, none⟩ = some u) ∧
    ((w.alloc (.cells ⟨[(.int .i64 0), (.int .i64 0)]⟩ 119)).setCell ⟨w.heap.size, 0, none⟩ (.int .i64 t24_6)).frozen? ⟨w.heap.size, 1, none⟩ = false ∧
    0 ≤ (0 : Int) ∧
    (0 : Int) < ((2 : Nat) : Int) ∧
    0 ≤ (1 : Int) ∧
    (1 : Int) < ((2 : Nat) : Int) ∧
    (
      ∃ (t30_6 : Int),
      (((w.alloc (.cells ⟨[(.int .i64 0), (.int .i64 0)]⟩ 119)).setCell ⟨w.heap.size, 0, none⟩ (.int .i64 t24_6)).setCell ⟨w.heap.size, 1, none⟩ (.int .i64 t24_7)).drew.cell? (Addr.add ⟨w.heap.size, 0, none⟩ (Int.toNat 0 * 1)) = some (.int .i64 t30_6) ∧
      ∃ (t34_6 : Int),
      (((w.alloc (.cells ⟨[(.int .i64 0), (.int .i64 0)]⟩ 119)).setCell ⟨w.heap.size, 0, none⟩ (.int .i64 t24_6)).setCell ⟨w.heap.size, 1, none⟩ (.int .i64 t24_7)).drew.cell? (Addr.add ⟨w.heap.size, 0, none⟩ (Int.toNat 1 * 1)) = some (.int .i64 t34_6) ∧
      S47_k3 f x y out_a out_l out_c (IntKind.i64.wrap (x + t30_6)) (IntKind.i64.wrap (y + t34_6)) t24_0 t24_1 t24_2 t24_3 t24_4 t24_5 t24_6 t24_7 t25 (((w.alloc (.cells ⟨[(.int .i64 0), (.int .i64 0)]⟩ 119)).setCell ⟨w.heap.size, 0, none⟩ (.int .i64 t24_6)).setCell ⟨w.heap.size, 1, none⟩ (.int .i64 t24_7)).drew R B1
    ) ∧
    (
      ∃ (t34_7 : Int),
      (((w.alloc (.cells ⟨[(.int .i64 0), (.int .i64 0)]⟩ 119)).setCell ⟨w.heap.size, 0, none⟩ (.int .i64 t24_6)).setCell ⟨w.heap.size, 1, none⟩ (.int .i64 t24_7)).drew.cell? (Addr.add ⟨w.heap.size, 0, none⟩ (Int.toNat 1 * 1)) = some (.int .i64 t34_7) ∧
      ∃ (t30_7 : Int),
      (((w.alloc (.cells ⟨[(.int .i64 0), (.int .i64 0)]⟩ 119)).setCell ⟨w.heap.size, 0, none⟩ (.int .i64 t24_6)).setCell ⟨w.heap.size, 1, none⟩ (.int .i64 t24_7)).drew.cell? (Addr.add ⟨w.heap.size, 0, none⟩ (Int.toNat 0 * 1)) = some (.int .i64 t30_7) ∧
      S47_k3 f x y out_a out_l out_c (IntKind.i64.wrap (x + t30_7)) (IntKind.i64.wrap (y + t34_7)) t24_0 t24_1 t24_2 t24_3 t24_4 t24_5 t24_6 t24_7 t25 (((w.alloc (.cells ⟨[(.int .i64 0), (.int .i64 0)]⟩ 119)).setCell ⟨w.heap.size, 0, none⟩ (.int .i64 t24_6)).setCell ⟨w.heap.size, 1, none⟩ (.int .i64 t24_7)).drew R B1
    ))

def S47_L1 (f : Addr) (x : Int) (y : Int) (out_a : Option Addr) (out_l : Nat) (out_c : Nat) (t24_0 : Int) (t24_1 : Int) (t24_2 : Int) (t24_3 : Int) (t24_4 : Int) (t24_5 : Int) (t24_6 : Int) (t24_7 : Int) (t25 : Int) (w : World) (R : Value → World → Prop) (B1 : (Option Addr × Nat × Nat) × (Int) × Unit → World → Prop) : Prop :=
  cond (decide ((t25 : Int) < 4)) (
    S47_k2 f x y out_a out_l out_c t24_0 t24_1 t24_2 t24_3 t24_4 t24_5 t24_6 t24_7 t25 w R B1
  ) (
    R (.slice out_a out_l out_c) w
  )

def S47_k0 (f : Addr) (x : Int) (y : Int) (w : World) (R : Value → World → Prop) : Prop :=
  ∃ (I : (Option Addr × Nat × Nat) × (Int) × Unit → World → Prop) (μ : (Option Addr × Nat × Nat) × (Int) × Unit → World → Nat),
  I ((none, 0, 0), 0, ()) w ∧
  ∀ (J : Env) (s : (Option Addr × Nat × Nat) × (Int) × Unit) (w' : World), I s w' →
    S47_L1 f x y s.1.1 s.1.2.1 s.1.2.2 0 (-1) 1 0 0 1 (-1) 0 s.2.1 w' R (fun s' w'' => I s' w'' ∧ μ s' w'' < μ s w')

def S47 (f_0 : Int) (f_1 : Int) (f_2 : ByteArray) (cell : Int) (w : World) (R : Value → World → Prop) : Prop :=
  (
    ∃ (t14 : Int),
    (w.alloc (.cells ⟨[(.int .i64 f_0), (.int .i64 f_1), (.string f_2)]⟩ 25)).drew.cell? ⟨w.heap.size, 0, none⟩ = some (.int .i64 t14) ∧
    (t14 : Int) ≠ 0 ∧
    ∃ (t18 : Int),
    (w.alloc (.cells ⟨[(.int .i64 f_0), (.int .i64 f_1), (.string f_2)]⟩ 25)).drew.cell? ⟨w.heap.size, 0, none⟩ = some (.int .i64 t18) ∧
    (t18 : Int) ≠ 0 ∧
    S47_k0 ⟨w.heap.size, 0, none⟩ (Int.tmod cell t14) (IntKind.i64.wrap (Int.tdiv cell t18)) (w.alloc (.cells ⟨[(.int .i64 f_0), (.int .i64 f_1), (.string f_2)]⟩ 25)).drew R
  ) ∧
  (
    ∃ (t18_1 : Int),
    (w.alloc (.cells ⟨[(.int .i64 f_0), (.int .i64 f_1), (.string f_2)]⟩ 25)).drew.cell? ⟨w.heap.size, 0, none⟩ = some (.int .i64 t18_1) ∧
    (t18_1 : Int) ≠ 0 ∧
    ∃ (t14_1 : Int),
    (w.alloc (.cells ⟨[(.int .i64 f_0), (.int .i64 f_1), (.string f_2)]⟩ 25)).drew.cell? ⟨w.heap.size, 0, none⟩ = some (.int .i64 t14_1) ∧
    (t14_1 : Int) ≠ 0 ∧
    S47_k0 ⟨w.heap.size, 0, none⟩ (Int.tmod cell t14_1) (IntKind.i64.wrap (Int.tdiv cell t18_1)) (w.alloc (.cells ⟨[(.int .i64 f_0), (.int .i64 f_1), (.string f_2)]⟩ 25)).drew R
  )

theorem S47_eq (f_0 : Int) (f_1 : Int) (f_2 : ByteArray) (cell : Int) (w : World) (R : Value → World → Prop) : Eng.R Tryd.prog ⟨cal, S47_nx⟩ 65 S47_ann [] (Tryd.f47.body.getD .skip) (bodyQ Tryd.prog #[.tmp 4] R) (argE [(.agg ⟨[(.int .i64 f_0), (.int .i64 f_1), (.string f_2)]⟩), (.int .i64 cell)]) w = S47 f_0 f_1 f_2 cell w R := by kernel_rfl
/-- A call of 'carfax/floor.beside', by its condition. -/
theorem S47_calls {f_0 : Int} {f_1 : Int} {f_2 : ByteArray} {cell : Int} {w : World} {R : Value → World → Prop} (hS : S47 f_0 f_1 f_2 cell w R) : Ret Tryd.prog 47 [(.agg ⟨[(.int .i64 f_0), (.int .i64 f_1), (.string f_2)]⟩), (.int .i64 cell)] w R :=
  R_calls (C := ⟨cal, S47_nx⟩) cal_ok follows Tryd.func47 (c := Tryd.f47.body.getD .skip) (res := #[.tmp 4]) (n := 65) (by kernel_rfl) (by kernel_rfl) (by kernel_rfl) (by kernel_rfl) ((S47_eq f_0 f_1 f_2 cell w R).mpr hS)

def S48_ann (p : List Nat) : Option LA :=
  none

def S48_nx (t : Nat) : Option (TypeId × TypeId) := none

def S48 (s_a : Option Addr) (s_l : Nat) (s_c : Nat) (r : Int) (w : World) (R : Value → World → Prop) : Prop :=
  0 ≤ (r : Int) ∧
  (r : Int) ≤ ((s_c : Nat) : Int) ∧
  Calls Tryd.prog 62 ⟨[(.slice (slAddr s_a s_c 0 2) ((Int.toNat r) - 0) (s_c - 0))]⟩ w fun e w_ =>
    e = .returned (.tuple ⟨[]⟩) ∧
    0 ≤ (r : Int) ∧
    (r : Int) ≤ ((s_l : Nat) : Int) ∧
    Calls Tryd.prog 62 ⟨[(.slice (slAddr s_a s_c (Int.toNat r) 2) (s_l - (Int.toNat r)) (s_c - (Int.toNat r)))]⟩ w_ fun e w__1 =>
      e = .returned (.tuple ⟨[]⟩) ∧
      Calls Tryd.prog 62 ⟨[(.slice s_a s_l s_c)]⟩ w__1 fun e w__2 =>
        e = .returned (.tuple ⟨[]⟩) ∧
        R (.tuple ⟨[]⟩) w__2

theorem S48_eq (s_a : Option Addr) (s_l : Nat) (s_c : Nat) (r : Int) (w : World) (R : Value → World → Prop) : Eng.R Tryd.prog ⟨cal, S48_nx⟩ 14 S48_ann [] (Tryd.f48.body.getD .skip) (bodyQ Tryd.prog #[] R) (argE [(.slice s_a s_l s_c), (.int .i64 r)]) w = S48 s_a s_l s_c r w R := by kernel_rfl
/-- A call of 'slices.rotateLeft[carfax/api.Window]', by its condition. -/
theorem S48_calls {s_a : Option Addr} {s_l : Nat} {s_c : Nat} {r : Int} {w : World} {R : Value → World → Prop} (hS : S48 s_a s_l s_c r w R) : Ret Tryd.prog 48 [(.slice s_a s_l s_c), (.int .i64 r)] w R :=
  R_calls (C := ⟨cal, S48_nx⟩) cal_ok follows Tryd.func48 (c := Tryd.f48.body.getD .skip) (res := #[]) (n := 14) (by kernel_rfl) (by kernel_rfl) (by kernel_rfl) (by kernel_rfl) ((S48_eq s_a s_l s_c r w R).mpr hS)

def S49_ann (p : List Nat) : Option LA :=
  none

def S49_nx (t : Nat) : Option (TypeId × TypeId) := none

def S49 (f_0 : Int) (f_1 : Int) (f_2 : ByteArray) (cell : Int) (k : Int) (w : World) (R : Value → World → Prop) : Prop :=
  cond (decide ((0 : Int) ≤ cell)) (
    ∃ (t12 : ByteArray),
    (w.alloc (.cells ⟨[(.int .i64 f_0), (.int .i64 f_1), (.string f_2)]⟩ 25)).cell? ⟨w.heap.size, 2, none⟩ = some (.string t12) ∧
    cond (decide ((cell : Int) < ((ByteArray.size t12 : Nat) : Int))) (
      ∃ (t18 : ByteArray),
      (w.alloc (.cells ⟨[(.int .i64 f_0), (.int .i64 f_1), (.string f_2)]⟩ 25)).cell? ⟨w.heap.size, 2, none⟩ = some (.string t18) ∧
      ∃ (t20 : UInt8),
      0 ≤ (cell : Int) ∧
      (t18)[Int.toNat cell]? = some t20 ∧
      Calls Tryd.prog 41 ⟨[(.int .u8 (t20.toNat : Int))]⟩ (w.alloc (.cells ⟨[(.int .i64 f_0), (.int .i64 f_1), (.string f_2)]⟩ 25)) fun e w_ =>
        ∃ (t21 : Int),
        e = .returned (.int .i64 t21) ∧
        cond (decide ((t21 : Int) = k)) (
          ∃ (t26_0 : Int),
          w_.cell? ⟨w.heap.size, 0, none⟩ = some (.int .i64 t26_0) ∧
          ∃ (t26_1 : Int),
          w_.cell? ⟨w.heap.size, 1, none⟩ = some (.int .i64 t26_1) ∧
          ∃ (t26_2 : ByteArray),
          w_.cell? ⟨w.heap.size, 2, none⟩ = some (.string t26_2) ∧
          Calls Tryd.prog 25 ⟨[(.agg ⟨[(.int .i64 t26_0), (.int .i64 t26_1), (.string t26_2)]⟩)]⟩ w_ fun e w__1 =>
            ∃ (t27 : Bool),
            e = .returned (.bool t27) ∧
            R (.bool t27) w__1
        ) (
          R (.bool false) w_
        )
    ) (
      R (.bool false) (w.alloc (.cells ⟨[(.int .i64 f_0), (.int .i64 f_1), (.string f_2)]⟩ 25))
    )
  ) (
    R (.bool false) (w.alloc (.cells ⟨[(.int .i64 f_0), (.int .i64 f_1), (.string f_2)]⟩ 25))
  )

theorem S49_eq (f_0 : Int) (f_1 : Int) (f_2 : ByteArray) (cell : Int) (k : Int) (w : World) (R : Value → World → Prop) : Eng.R Tryd.prog ⟨cal, S49_nx⟩ 29 S49_ann [] (Tryd.f49.body.getD .skip) (bodyQ Tryd.prog #[.tmp 6] R) (argE [(.agg ⟨[(.int .i64 f_0), (.int .i64 f_1), (.string f_2)]⟩), (.int .i64 cell), (.int .i64 k)]) w = S49 f_0 f_1 f_2 cell k w R := by kernel_rfl
/-- A call of 'carfax/floor.is', by its condition. -/
theorem S49_calls {f_0 : Int} {f_1 : Int} {f_2 : ByteArray} {cell : Int} {k : Int} {w : World} {R : Value → World → Prop} (hS : S49 f_0 f_1 f_2 cell k w R) : Ret Tryd.prog 49 [(.agg ⟨[(.int .i64 f_0), (.int .i64 f_1), (.string f_2)]⟩), (.int .i64 cell), (.int .i64 k)] w R :=
  R_calls (C := ⟨cal, S49_nx⟩) cal_ok follows Tryd.func49 (c := Tryd.f49.body.getD .skip) (res := #[.tmp 6]) (n := 29) (by kernel_rfl) (by kernel_rfl) (by kernel_rfl) (by kernel_rfl) ((S49_eq f_0 f_1 f_2 cell k w R).mpr hS)

def S50_ann (p : List Nat) : Option LA := match p with
  | [0, 1] => some ⟨[0, 4], [(1, .one (.int .i64))]⟩
  | _ => none

def S50_nx (t : Nat) : Option (TypeId × TypeId) := none

def S50_k2 (h : Option Addr) (i : Int) (w : World) (R : Value → World → Prop) (B1 : (Int) × Unit → World → Prop) : Prop :=
  (2 : Int) ≠ 0 ∧
  Calls Tryd.prog 52 ⟨[(.pointer h), (.int .i64 i), (.int .i64 (IntKind.i64.wrap (Int.tdiv (IntKind.i64.wrap (i - 1)) 2)))]⟩ w fun e w_ =>
    e = .returned (.tuple ⟨[]⟩) ∧
    (2 : Int) ≠ 0 ∧
    B1 ((IntKind.i64.wrap (Int.tdiv (IntKind.i64.wrap (i - 1)) 2)), ()) w_

def S50_k1 (h : Option Addr) (i : Int) (t26 : Bool) (w : World) (R : Value → World → Prop) (B1 : (Int) × Unit → World → Prop) : Prop :=
  cond t26 (
    S50_k2 h i w R B1
  ) (
    R (.tuple ⟨[]⟩) w
  )

def S50_L0 (h : Option Addr) (i : Int) (w : World) (R : Value → World → Prop) (B1 : (Int) × Unit → World → Prop) : Prop :=
  cond (decide ((0 : Int) < i)) (
    ∃ (t10 : Addr),
    h = some t10 ∧
    ∃ (t17 : Addr),
    h = some t17 ∧
    (2 : Int) ≠ 0 ∧
    ∃ (t12_a : Option Addr) (t12_l : Nat) (t12_c : Nat),
    w.drew.cell? t10 = some (.slice t12_a t12_l t12_c) ∧
    ∃ (t14 : Addr),
    t12_a = some t14 ∧
    0 ≤ (i : Int) ∧
    (i : Int) < ((t12_l : Nat) : Int) ∧
    ∃ (t15_0 : Int),
    w.drew.cell? (t14.add (Int.toNat i * 3)) = some (.int .i64 t15_0) ∧
    ∃ (t15_1 : Int),
    w.drew.cell? ((t14.add (Int.toNat i * 3)).add 1) = some (.int .i64 t15_1) ∧
    ∃ (t15_2 : Int),
    w.drew.cell? ((t14.add (Int.toNat i * 3)).add 2) = some (.int .u64 t15_2) ∧
    ∃ (t19_a : Option Addr) (t19_l : Nat) (t19_c : Nat),
    w.drew.cell? t17 = some (.slice t19_a t19_l t19_c) ∧
    ∃ (t23 : Addr),
    t19_a = some t23 ∧
    0 ≤ ((IntKind.i64.wrap (Int.tdiv (IntKind.i64.wrap (i - 1)) 2)) : Int) ∧
    ((IntKind.i64.wrap (Int.tdiv (IntKind.i64.wrap (i - 1)) 2)) : Int) < ((t19_l : Nat) : Int) ∧
    ∃ (t24_0 : Int),
    w.drew.cell? (t23.add (Int.toNat (IntKind.i64.wrap (Int.tdiv (IntKind.i64.wrap (i - 1)) 2)) * 3)) = some (.int .i64 t24_0) ∧
    ∃ (t24_1 : Int),
    w.drew.cell? ((t23.add (Int.toNat (IntKind.i64.wrap (Int.tdiv (IntKind.i64.wrap (i - 1)) 2)) * 3)).add 1) = some (.int .i64 t24_1) ∧
    ∃ (t24_2 : Int),
    w.drew.cell? ((t23.add (Int.toNat (IntKind.i64.wrap (Int.tdiv (IntKind.i64.wrap (i - 1)) 2)) * 3)).add 2) = some (.int .u64 t24_2) ∧
    Calls Tryd.prog 63 ⟨[(.agg ⟨[(.int .i64 t15_0), (.int .i64 t15_1), (.int .u64 t15_2)]⟩), (.agg ⟨[(.int .i64 t24_0), (.int .i64 t24_1), (.int .u64 t24_2)]⟩)]⟩ w.drew fun e w_ =>
      ∃ (t25 : Bool),
      e = .returned (.bool t25) ∧
      S50_k1 h i t25 w_ R B1
  ) (
    S50_k1 h i false w.drew R B1
  )

def S50 (h : Option Addr) (i : Int) (w : World) (R : Value → World → Prop) : Prop :=
  ∃ (I : (Int) × Unit → World → Prop) (μ : (Int) × Unit → World → Nat),
  I (i, ()) w ∧
  ∀ (J : Env) (s : (Int) × Unit) (w' : World), I s w' →
    S50_L0 h s.1 w' R (fun s' w'' => I s' w'' ∧ μ s' w'' < μ s w')

theorem S50_eq (h : Option Addr) (i : Int) (w : World) (R : Value → World → Prop) : Eng.R Tryd.prog ⟨cal, S50_nx⟩ 36 S50_ann [] (Tryd.f50.body.getD .skip) (bodyQ Tryd.prog #[] R) (argE [(.pointer h), (.int .i64 i)]) w = S50 h i w R := by kernel_rfl
/-- A call of '(*carfax/heap.Heap).up', by its condition. -/
theorem S50_calls {h : Option Addr} {i : Int} {w : World} {R : Value → World → Prop} (hS : S50 h i w R) : Ret Tryd.prog 50 [(.pointer h), (.int .i64 i)] w R :=
  R_calls (C := ⟨cal, S50_nx⟩) cal_ok follows Tryd.func50 (c := Tryd.f50.body.getD .skip) (res := #[]) (n := 36) (by kernel_rfl) (by kernel_rfl) (by kernel_rfl) (by kernel_rfl) ((S50_eq h i w R).mpr hS)

def S51_ann (p : List Nat) : Option LA :=
  none

def S51_nx (t : Nat) : Option (TypeId × TypeId) := none

def S51_k0 (h : Option Addr) (t2 : Addr) (w : World) (R : Value → World → Prop) : Prop :=
  ∃ (t9 : Addr),
  h = some t9 ∧
  ∃ (t11_a : Option Addr) (t11_l : Nat) (t11_c : Nat),
  w.cell? t9 = some (.slice t11_a t11_l t11_c) ∧
  ∃ (t12 : Addr),
  t11_a = some t12 ∧
  0 ≤ (0 : Int) ∧
  (0 : Int) < ((t11_l : Nat) : Int) ∧
  ∃ (t14_0 : Int),
  w.cell? (t12.add (Int.toNat 0 * 3)) = some (.int .i64 t14_0) ∧
  ∃ (t14_1 : Int),
  w.cell? ((t12.add (Int.toNat 0 * 3)).add 1) = some (.int .i64 t14_1) ∧
  (∃ u, w.cell? t2 = some u) ∧
  w.frozen? t2 = false ∧
  (∃ u, (w.setCell t2 (.int .i64 t14_0)).cell? (t2.add 1) = some u) ∧
  (w.setCell t2 (.int .i64 t14_0)).frozen? (t2.add 1) = false ∧
  ∃ (t2_0 : Int),
  ((w.setCell t2 (.int .i64 t14_0)).setCell (t2.add 1) (.int .i64 t14_1)).cell? t2 = some (.int .i64 t2_0) ∧
  ∃ (t2_1 : Int),
  ((w.setCell t2 (.int .i64 t14_0)).setCell (t2.add 1) (.int .i64 t14_1)).cell? (t2.add 1) = some (.int .i64 t2_1) ∧
  R (.tuple ⟨[(.agg ⟨[(.int .i64 t2_0), (.int .i64 t2_1)]⟩), (.bool true)]⟩) ((w.setCell t2 (.int .i64 t14_0)).setCell (t2.add 1) (.int .i64 t14_1))

def S51 (h : Option Addr) (w : World) (R : Value → World → Prop) : Prop :=
  Calls Tryd.prog 64 ⟨[(.pointer h)]⟩ (w.alloc (.cells ⟨[(.int .i64 0), (.int .i64 0)]⟩ 86)) fun e w_ =>
    ∃ (t5 : Int),
    e = .returned (.int .i64 t5) ∧
    cond (decide ((t5 : Int) = 0)) (
      (∃ u, w_.cell? ⟨w.heap.size, 0, none⟩ = some u) ∧
      w_.frozen? ⟨w.heap.size, 0, none⟩ = false ∧
      (∃ u, (w_.setCell ⟨w.heap.size, 0, none⟩ (.int .i64 0)).cell? ⟨w.heap.size, 1, none⟩ = some u) ∧
      (w_.setCell ⟨w.heap.size, 0, none⟩ (.int .i64 0)).frozen? ⟨w.heap.size, 1, none⟩ = false ∧
      ∃ (t2_0 : Int),
      ((w_.setCell ⟨w.heap.size, 0, none⟩ (.int .i64 0)).setCell ⟨w.heap.size, 1, none⟩ (.int .i64 0)).cell? ⟨w.heap.size, 0, none⟩ = some (.int .i64 t2_0) ∧
      ∃ (t2_1 : Int),
      ((w_.setCell ⟨w.heap.size, 0, none⟩ (.int .i64 0)).setCell ⟨w.heap.size, 1, none⟩ (.int .i64 0)).cell? ⟨w.heap.size, 1, none⟩ = some (.int .i64 t2_1) ∧
      R (.tuple ⟨[(.agg ⟨[(.int .i64 t2_0), (.int .i64 t2_1)]⟩), (.bool false)]⟩) ((w_.setCell ⟨w.heap.size, 0, none⟩ (.int .i64 0)).setCell ⟨w.heap.size, 1, none⟩ (.int .i64 0))
    ) (
      S51_k0 h ⟨w.heap.size, 0, none⟩ w_ R
    )

theorem S51_eq (h : Option Addr) (w : World) (R : Value → World → Prop) : Eng.R Tryd.prog ⟨cal, S51_nx⟩ 15 S51_ann [] (Tryd.f51.body.getD .skip) (bodyQ Tryd.prog #[.cell 2 86, .tmp 3] R) (argE [(.pointer h)]) w = S51 h w R := by kernel_rfl
/-- A call of '(*carfax/heap.Heap).Peek', by its condition. -/
theorem S51_calls {h : Option Addr} {w : World} {R : Value → World → Prop} (hS : S51 h w R) : Ret Tryd.prog 51 [(.pointer h)] w R :=
  R_calls (C := ⟨cal, S51_nx⟩) cal_ok follows Tryd.func51 (c := Tryd.f51.body.getD .skip) (res := #[.cell 2 86, .tmp 3]) (n := 15) (by kernel_rfl) (by kernel_rfl) (by kernel_rfl) (by kernel_rfl) ((S51_eq h w R).mpr hS)

def S52_ann (p : List Nat) : Option LA :=
  none

def S52_nx (t : Nat) : Option (TypeId × TypeId) := none

def S52 (h : Option Addr) (i : Int) (k : Int) (w : World) (R : Value → World → Prop) : Prop :=
  ∃ (t7 : Addr),
  h = some t7 ∧
  ∃ (t12 : Addr),
  h = some t12 ∧
  ∃ (t17 : Addr),
  h = some t17 ∧
  ∃ (t24 : Addr),
  h = some t24 ∧
  ∃ (t9_a : Option Addr) (t9_l : Nat) (t9_c : Nat),
  w.drew.cell? t7 = some (.slice t9_a t9_l t9_c) ∧
  ∃ (t14_a : Option Addr) (t14_l : Nat) (t14_c : Nat),
  w.drew.cell? t12 = some (.slice t14_a t14_l t14_c) ∧
  ∃ (t19_a : Option Addr) (t19_l : Nat) (t19_c : Nat),
  w.drew.cell? t17 = some (.slice t19_a t19_l t19_c) ∧
  ∃ (t21 : Addr),
  t19_a = some t21 ∧
  0 ≤ (k : Int) ∧
  (k : Int) < ((t19_l : Nat) : Int) ∧
  ∃ (t22_0 : Int),
  w.drew.cell? (t21.add (Int.toNat k * 3)) = some (.int .i64 t22_0) ∧
  ∃ (t22_1 : Int),
  w.drew.cell? ((t21.add (Int.toNat k * 3)).add 1) = some (.int .i64 t22_1) ∧
  ∃ (t22_2 : Int),
  w.drew.cell? ((t21.add (Int.toNat k * 3)).add 2) = some (.int .u64 t22_2) ∧
  ∃ (t26_a : Option Addr) (t26_l : Nat) (t26_c : Nat),
  w.drew.cell? t24 = some (.slice t26_a t26_l t26_c) ∧
  ∃ (t28 : Addr),
  t26_a = some t28 ∧
  0 ≤ (i : Int) ∧
  (i : Int) < ((t26_l : Nat) : Int) ∧
  ∃ (t29_0 : Int),
  w.drew.cell? (t28.add (Int.toNat i * 3)) = some (.int .i64 t29_0) ∧
  ∃ (t29_1 : Int),
  w.drew.cell? ((t28.add (Int.toNat i * 3)).add 1) = some (.int .i64 t29_1) ∧
  ∃ (t29_2 : Int),
  w.drew.cell? ((t28.add (Int.toNat i * 3)).add 2) = some (.int .u64 t29_2) ∧
  ∃ (t30 : Addr),
  t9_a = some t30 ∧
  0 ≤ (i : Int) ∧
  (i : Int) < ((t9_l : Nat) : Int) ∧
  (∃ u, w.drew.cell? (t30.add (Int.toNat i * 3)) = some u) ∧
  w.drew.frozen? (t30.add (Int.toNat i * 3)) = false ∧
  (∃ u, (w.drew.setCell (t30.add (Int.toNat i * 3)) (.int .i64 t22_0)).cell? ((t30.add (Int.toNat i * 3)).add 1) = some u) ∧
  (w.drew.setCell (t30.add (Int.toNat i * 3)) (.int .i64 t22_0)).frozen? ((t30.add (Int.toNat i * 3)).add 1) = false ∧
  (∃ u, ((w.drew.setCell (t30.add (Int.toNat i * 3)) (.int .i64 t22_0)).setCell ((t30.add (Int.toNat i * 3)).add 1) (.int .i64 t22_1)).cell? ((t30.add (Int.toNat i * 3)).add 2) = some u) ∧
  ((w.drew.setCell (t30.add (Int.toNat i * 3)) (.int .i64 t22_0)).setCell ((t30.add (Int.toNat i * 3)).add 1) (.int .i64 t22_1)).frozen? ((t30.add (Int.toNat i * 3)).add 2) = false ∧
  ∃ (t31 : Addr),
  t14_a = some t31 ∧
  0 ≤ (k : Int) ∧
  (k : Int) < ((t14_l : Nat) : Int) ∧
  (∃ u, (((w.drew.setCell (t30.add (Int.toNat i * 3)) (.int .i64 t22_0)).setCell ((t30.add (Int.toNat i * 3)).add 1) (.int .i64 t22_1)).setCell ((t30.add (Int.toNat i * 3)).add 2) (.int .u64 t22_2)).cell? (t31.add (Int.toNat k * 3)) = some u) ∧
  (((w.drew.setCell (t30.add (Int.toNat i * 3)) (.int .i64 t22_0)).setCell ((t30.add (Int.toNat i * 3)).add 1) (.int .i64 t22_1)).setCell ((t30.add (Int.toNat i * 3)).add 2) (.int .u64 t22_2)).frozen? (t31.add (Int.toNat k * 3)) = false ∧
  (∃ u, ((((w.drew.setCell (t30.add (Int.toNat i * 3)) (.int .i64 t22_0)).setCell ((t30.add (Int.toNat i * 3)).add 1) (.int .i64 t22_1)).setCell ((t30.add (Int.toNat i * 3)).add 2) (.int .u64 t22_2)).setCell (t31.add (Int.toNat k * 3)) (.int .i64 t29_0)).cell? ((t31.add (Int.toNat k * 3)).add 1) = some u) ∧
  ((((w.drew.setCell (t30.add (Int.toNat i * 3)) (.int .i64 t22_0)).setCell ((t30.add (Int.toNat i * 3)).add 1) (.int .i64 t22_1)).setCell ((t30.add (Int.toNat i * 3)).add 2) (.int .u64 t22_2)).setCell (t31.add (Int.toNat k * 3)) (.int .i64 t29_0)).frozen? ((t31.add (Int.toNat k * 3)).add 1) = false ∧
  (∃ u, (((((w.drew.setCell (t30.add (Int.toNat i * 3)) (.int .i64 t22_0)).setCell ((t30.add (Int.toNat i * 3)).add 1) (.int .i64 t22_1)).setCell ((t30.add (Int.toNat i * 3)).add 2) (.int .u64 t22_2)).setCell (t31.add (Int.toNat k * 3)) (.int .i64 t29_0)).setCell ((t31.add (Int.toNat k * 3)).add 1) (.int .i64 t29_1)).cell? ((t31.add (Int.toNat k * 3)).add 2) = some u) ∧
  (((((w.drew.setCell (t30.add (Int.toNat i * 3)) (.int .i64 t22_0)).setCell ((t30.add (Int.toNat i * 3)).add 1) (.int .i64 t22_1)).setCell ((t30.add (Int.toNat i * 3)).add 2) (.int .u64 t22_2)).setCell (t31.add (Int.toNat k * 3)) (.int .i64 t29_0)).setCell ((t31.add (Int.toNat k * 3)).add 1) (.int .i64 t29_1)).frozen? ((t31.add (Int.toNat k * 3)).add 2) = false ∧
  R (.tuple ⟨[]⟩) ((((((w.drew.setCell (t30.add (Int.toNat i * 3)) (.int .i64 t22_0)).setCell ((t30.add (Int.toNat i * 3)).add 1) (.int .i64 t22_1)).setCell ((t30.add (Int.toNat i * 3)).add 2) (.int .u64 t22_2)).setCell (t31.add (Int.toNat k * 3)) (.int .i64 t29_0)).setCell ((t31.add (Int.toNat k * 3)).add 1) (.int .i64 t29_1)).setCell ((t31.add (Int.toNat k * 3)).add 2) (.int .u64 t29_2))

theorem S52_eq (h : Option Addr) (i : Int) (k : Int) (w : World) (R : Value → World → Prop) : Eng.R Tryd.prog ⟨cal, S52_nx⟩ 32 S52_ann [] (Tryd.f52.body.getD .skip) (bodyQ Tryd.prog #[] R) (argE [(.pointer h), (.int .i64 i), (.int .i64 k)]) w = S52 h i k w R := by kernel_rfl
/-- A call of '(*carfax/heap.Heap).swap', by its condition. -/
theorem S52_calls {h : Option Addr} {i : Int} {k : Int} {w : World} {R : Value → World → Prop} (hS : S52 h i k w R) : Ret Tryd.prog 52 [(.pointer h), (.int .i64 i), (.int .i64 k)] w R :=
  R_calls (C := ⟨cal, S52_nx⟩) cal_ok follows Tryd.func52 (c := Tryd.f52.body.getD .skip) (res := #[]) (n := 32) (by kernel_rfl) (by kernel_rfl) (by kernel_rfl) (by kernel_rfl) ((S52_eq h i k w R).mpr hS)

def S53_ann (p : List Nat) : Option LA := match p with
  | [0, 1] => some ⟨[0, 4], [(1, .one (.int .i64))]⟩
  | [0, 1, 0, 1, 0, 0, 0, 1] => some ⟨[0, 1, 4, 17], [(5, .one (.int .i64)), (18, .one (.int .i64))]⟩
  | _ => none

def S53_nx (t : Nat) : Option (TypeId × TypeId) := none

def S53_k3 (h : Option Addr) (i : Int) (swap_f0 : Option Addr) (least : Int) (k : Int) (t17_0 : Int) (t17_1 : Int) (t18 : Int) (t44 : Bool) (w : World) (R : Value → World → Prop) (B1 : (Int) × Unit → World → Prop) (B2 : (Int) × (Int) × Unit → World → Prop) : Prop :=
  cond t44 (
    B2 (k, (IntKind.i64.wrap (t18 + 1)), ()) w
  ) (
    B2 (least, (IntKind.i64.wrap (t18 + 1)), ()) w
  )

def S53_k2 (h : Option Addr) (i : Int) (swap_f0 : Option Addr) (least : Int) (t17_0 : Int) (t17_1 : Int) (t18 : Int) (w : World) (R : Value → World → Prop) (B1 : (Int) × Unit → World → Prop) (B2 : (Int) × (Int) × Unit → World → Prop) : Prop :=
  0 ≤ (t18 : Int) ∧
  (t18 : Int) < ((2 : Nat) : Int) ∧
  (t18 = ((0 : Nat) : Int) →
    ∃ (t23 : Addr),
    h = some t23 ∧
    ∃ (t25_a : Option Addr) (t25_l : Nat) (t25_c : Nat),
    w.drew.cell? t23 = some (.slice t25_a t25_l t25_c) ∧
    cond (decide ((t17_0 : Int) < ((t25_l : Nat) : Int))) (
      ∃ (t30 : Addr),
      h = some t30 ∧
      ∃ (t37 : Addr),
      h = some t37 ∧
      ∃ (t32_a : Option Addr) (t32_l : Nat) (t32_c : Nat),
      w.drew.cell? t30 = some (.slice t32_a t32_l t32_c) ∧
      ∃ (t34 : Addr),
      t32_a = some t34 ∧
      0 ≤ (t17_0 : Int) ∧
      (t17_0 : Int) < ((t32_l : Nat) : Int) ∧
      ∃ (t35_0 : Int),
      w.drew.cell? (t34.add (Int.toNat t17_0 * 3)) = some (.int .i64 t35_0) ∧
      ∃ (t35_1 : Int),
      w.drew.cell? ((t34.add (Int.toNat t17_0 * 3)).add 1) = some (.int .i64 t35_1) ∧
      ∃ (t35_2 : Int),
      w.drew.cell? ((t34.add (Int.toNat t17_0 * 3)).add 2) = some (.int .u64 t35_2) ∧
      ∃ (t39_a : Option Addr) (t39_l : Nat) (t39_c : Nat),
      w.drew.cell? t37 = some (.slice t39_a t39_l t39_c) ∧
      ∃ (t41 : Addr),
      t39_a = some t41 ∧
      0 ≤ (least : Int) ∧
      (least : Int) < ((t39_l : Nat) : Int) ∧
      ∃ (t42_0 : Int),
      w.drew.cell? (t41.add (Int.toNat least * 3)) = some (.int .i64 t42_0) ∧
      ∃ (t42_1 : Int),
      w.drew.cell? ((t41.add (Int.toNat least * 3)).add 1) = some (.int .i64 t42_1) ∧
      ∃ (t42_2 : Int),
      w.drew.cell? ((t41.add (Int.toNat least * 3)).add 2) = some (.int .u64 t42_2) ∧
      Calls Tryd.prog 63 ⟨[(.agg ⟨[(.int .i64 t35_0), (.int .i64 t35_1), (.int .u64 t35_2)]⟩), (.agg ⟨[(.int .i64 t42_0), (.int .i64 t42_1), (.int .u64 t42_2)]⟩)]⟩ w.drew fun e w_ =>
        ∃ (t43 : Bool),
        e = .returned (.bool t43) ∧
        S53_k3 h i swap_f0 least t17_0 t17_0 t17_1 t18 t43 w_ R B1 B2
    ) (
      S53_k3 h i swap_f0 least t17_0 t17_0 t17_1 t18 false w.drew R B1 B2
    )) ∧
  (t18 = ((1 : Nat) : Int) →
    ∃ (t23_1 : Addr),
    h = some t23_1 ∧
    ∃ (t25_a_1 : Option Addr) (t25_l_1 : Nat) (t25_c_1 : Nat),
    w.drew.cell? t23_1 = some (.slice t25_a_1 t25_l_1 t25_c_1) ∧
    cond (decide ((t17_1 : Int) < ((t25_l_1 : Nat) : Int))) (
      ∃ (t30_1 : Addr),
      h = some t30_1 ∧
      ∃ (t37_1 : Addr),
      h = some t37_1 ∧
      ∃ (t32_a_1 : Option Addr) (t32_l_1 : Nat) (t32_c_1 : Nat),
      w.drew.cell? t30_1 = some (.slice t32_a_1 t32_l_1 t32_c_1) ∧
      ∃ (t34_1 : Addr),
      t32_a_1 = some t34_1 ∧
      0 ≤ (t17_1 : Int) ∧
      (t17_1 : Int) < ((t32_l_1 : Nat) : Int) ∧
      ∃ (t35_0_1 : Int),
      w.drew.cell? (t34_1.add (Int.toNat t17_1 * 3)) = some (.int .i64 t35_0_1) ∧
      ∃ (t35_1_1 : Int),
      w.drew.cell? ((t34_1.add (Int.toNat t17_1 * 3)).add 1) = some (.int .i64 t35_1_1) ∧
      ∃ (t35_2_1 : Int),
      w.drew.cell? ((t34_1.add (Int.toNat t17_1 * 3)).add 2) = some (.int .u64 t35_2_1) ∧
      ∃ (t39_a_1 : Option Addr) (t39_l_1 : Nat) (t39_c_1 : Nat),
      w.drew.cell? t37_1 = some (.slice t39_a_1 t39_l_1 t39_c_1) ∧
      ∃ (t41_1 : Addr),
      t39_a_1 = some t41_1 ∧
      0 ≤ (least : Int) ∧
      (least : Int) < ((t39_l_1 : Nat) : Int) ∧
      ∃ (t42_0_1 : Int),
      w.drew.cell? (t41_1.add (Int.toNat least * 3)) = some (.int .i64 t42_0_1) ∧
      ∃ (t42_1_1 : Int),
      w.drew.cell? ((t41_1.add (Int.toNat least * 3)).add 1) = some (.int .i64 t42_1_1) ∧
      ∃ (t42_2_1 : Int),
      w.drew.cell? ((t41_1.add (Int.toNat least * 3)).add 2) = some (.int .u64 t42_2_1) ∧
      Calls Tryd.prog 63 ⟨[(.agg ⟨[(.int .i64 t35_0_1), (.int .i64 t35_1_1), (.int .u64 t35_2_1)]⟩), (.agg ⟨[(.int .i64 t42_0_1), (.int .i64 t42_1_1), (.int .u64 t42_2_1)]⟩)]⟩ w.drew fun e w__1 =>
        ∃ (t43_1 : Bool),
        e = .returned (.bool t43_1) ∧
        S53_k3 h i swap_f0 least t17_1 t17_0 t17_1 t18 t43_1 w__1 R B1 B2
    ) (
      S53_k3 h i swap_f0 least t17_1 t17_0 t17_1 t18 false w.drew R B1 B2
    ))

def S53_k5 (h : Option Addr) (i : Int) (swap_f0 : Option Addr) (least : Int) (w : World) (R : Value → World → Prop) (B1 : (Int) × Unit → World → Prop) : Prop :=
  Calls Tryd.prog 52 ⟨[(.pointer swap_f0), (.int .i64 i), (.int .i64 least)]⟩ w fun e w_ =>
    e = .returned (.tuple ⟨[]⟩) ∧
    B1 (least, ()) w_

def S53_k4 (h : Option Addr) (i : Int) (swap_f0 : Option Addr) (least : Int) (w : World) (R : Value → World → Prop) (B1 : (Int) × Unit → World → Prop) : Prop :=
  cond (decide ((least : Int) = i)) (
    R (.tuple ⟨[]⟩) w
  ) (
    S53_k5 h i swap_f0 least w R B1
  )

def S53_L1 (h : Option Addr) (i : Int) (swap_f0 : Option Addr) (least : Int) (t17_0 : Int) (t17_1 : Int) (t18 : Int) (w : World) (R : Value → World → Prop) (B1 : (Int) × Unit → World → Prop) (B2 : (Int) × (Int) × Unit → World → Prop) : Prop :=
  cond (decide ((t18 : Int) < 2)) (
    S53_k2 h i swap_f0 least t17_0 t17_1 t18 w R B1 B2
  ) (
    S53_k4 h i swap_f0 least w R B1
  )

def S53_L0 (h : Option Addr) (i : Int) (swap_f0 : Option Addr) (w : World) (R : Value → World → Prop) (B1 : (Int) × Unit → World → Prop) : Prop :=
  ∃ (I : (Int) × (Int) × Unit → World → Prop) (μ : (Int) × (Int) × Unit → World → Nat),
  I (i, 0, ()) w ∧
  ∀ (J : Env) (s : (Int) × (Int) × Unit) (w' : World), I s w' →
    S53_L1 h i swap_f0 s.1 (IntKind.i64.wrap ((IntKind.i64.wrap (2 * i)) + 1)) (IntKind.i64.wrap ((IntKind.i64.wrap (2 * i)) + 2)) s.2.1 w' R B1 (fun s' w'' => I s' w'' ∧ μ s' w'' < μ s w')

def S53 (h : Option Addr) (i : Int) (w : World) (R : Value → World → Prop) : Prop :=
  ∃ (I : (Int) × Unit → World → Prop) (μ : (Int) × Unit → World → Nat),
  I (i, ()) w ∧
  ∀ (J : Env) (s : (Int) × Unit) (w' : World), I s w' →
    S53_L0 h s.1 h w' R (fun s' w'' => I s' w'' ∧ μ s' w'' < μ s w')

theorem S53_eq (h : Option Addr) (i : Int) (w : World) (R : Value → World → Prop) : Eng.R Tryd.prog ⟨cal, S53_nx⟩ 55 S53_ann [] (Tryd.f53.body.getD .skip) (bodyQ Tryd.prog #[] R) (argE [(.pointer h), (.int .i64 i)]) w = S53 h i w R := by kernel_rfl
/-- A call of '(*carfax/heap.Heap).down', by its condition. -/
theorem S53_calls {h : Option Addr} {i : Int} {w : World} {R : Value → World → Prop} (hS : S53 h i w R) : Ret Tryd.prog 53 [(.pointer h), (.int .i64 i)] w R :=
  R_calls (C := ⟨cal, S53_nx⟩) cal_ok follows Tryd.func53 (c := Tryd.f53.body.getD .skip) (res := #[]) (n := 55) (by kernel_rfl) (by kernel_rfl) (by kernel_rfl) (by kernel_rfl) ((S53_eq h i w R).mpr hS)

def S55_ann (p : List Nat) : Option LA :=
  none

def S55_nx (t : Nat) : Option (TypeId × TypeId) := none

def S55 (y_0 : Int) (y_1 : Int) (y_2 : Int) (cap : Addr) (w : World) (R : Value → World → Prop) : Prop :=
  ∃ (t5 : Int),
  (w.alloc (.cells ⟨[(.int .i64 y_0), (.int .i64 y_1), (.int .i64 y_2)]⟩ 58)).cell? ⟨w.heap.size, 2, none⟩ = some (.int .i64 t5) ∧
  ∃ (t7 : Int),
  (w.alloc (.cells ⟨[(.int .i64 y_0), (.int .i64 y_1), (.int .i64 y_2)]⟩ 58)).cell? (cap.add 2) = some (.int .i64 t7) ∧
  cond (decide ((t5 : Int) = t7)) (
    ∃ (t11 : Int),
    (w.alloc (.cells ⟨[(.int .i64 y_0), (.int .i64 y_1), (.int .i64 y_2)]⟩ 58)).cell? ⟨w.heap.size, 1, none⟩ = some (.int .i64 t11) ∧
    ∃ (t13 : Int),
    (w.alloc (.cells ⟨[(.int .i64 y_0), (.int .i64 y_1), (.int .i64 y_2)]⟩ 58)).cell? (cap.add 1) = some (.int .i64 t13) ∧
    R (.bool (decide ((t11 : Int) ≤ t13))) (w.alloc (.cells ⟨[(.int .i64 y_0), (.int .i64 y_1), (.int .i64 y_2)]⟩ 58))
  ) (
    R (.bool false) (w.alloc (.cells ⟨[(.int .i64 y_0), (.int .i64 y_1), (.int .i64 y_2)]⟩ 58))
  )

theorem S55_eq (y_0 : Int) (y_1 : Int) (y_2 : Int) (cap : Addr) (w : World) (R : Value → World → Prop) : Eng.R Tryd.prog ⟨cal, S55_nx⟩ 16 S55_ann [] (Tryd.f55.body.getD .skip) (bodyQ Tryd.prog #[.tmp 3] R) (argE [(.agg ⟨[(.int .i64 y_0), (.int .i64 y_1), (.int .i64 y_2)]⟩), (.pointer (some cap))]) w = S55 y_0 y_1 y_2 cap w R := by kernel_rfl
/-- A call of '(*carfax/sipp.search).known$1', by its condition. -/
theorem S55_calls {y_0 : Int} {y_1 : Int} {y_2 : Int} {cap : Addr} {w : World} {R : Value → World → Prop} (hS : S55 y_0 y_1 y_2 cap w R) : Ret Tryd.prog 55 [(.agg ⟨[(.int .i64 y_0), (.int .i64 y_1), (.int .i64 y_2)]⟩), (.pointer (some cap))] w R :=
  R_calls (C := ⟨cal, S55_nx⟩) cal_ok follows Tryd.func55 (c := Tryd.f55.body.getD .skip) (res := #[.tmp 3]) (n := 16) (by kernel_rfl) (by kernel_rfl) (by kernel_rfl) (by kernel_rfl) ((S55_eq y_0 y_1 y_2 cap w R).mpr hS)

def S56_ann (p : List Nat) : Option LA :=
  none

def S56_nx (t : Nat) : Option (TypeId × TypeId) := none

def S56 (x_0 : Int) (x_1 : Int) (x_2 : Int) (cap : Addr) (w : World) (R : Value → World → Prop) : Prop :=
  ∃ (t5 : Int),
  (w.alloc (.cells ⟨[(.int .i64 x_0), (.int .i64 x_1), (.int .i64 x_2)]⟩ 58)).cell? ⟨w.heap.size, 1, none⟩ = some (.int .i64 t5) ∧
  ∃ (t6 : Int),
  (w.alloc (.cells ⟨[(.int .i64 x_0), (.int .i64 x_1), (.int .i64 x_2)]⟩ 58)).cell? cap = some (.int .i64 t6) ∧
  cond (decide ((t5 : Int) ≤ t6)) (
    ∃ (t9 : Int),
    (w.alloc (.cells ⟨[(.int .i64 x_0), (.int .i64 x_1), (.int .i64 x_2)]⟩ 58)).cell? cap = some (.int .i64 t9) ∧
    ∃ (t11 : Int),
    (w.alloc (.cells ⟨[(.int .i64 x_0), (.int .i64 x_1), (.int .i64 x_2)]⟩ 58)).cell? ⟨w.heap.size, 2, none⟩ = some (.int .i64 t11) ∧
    R (.bool (decide ((t9 : Int) < t11))) (w.alloc (.cells ⟨[(.int .i64 x_0), (.int .i64 x_1), (.int .i64 x_2)]⟩ 58))
  ) (
    R (.bool false) (w.alloc (.cells ⟨[(.int .i64 x_0), (.int .i64 x_1), (.int .i64 x_2)]⟩ 58))
  )

theorem S56_eq (x_0 : Int) (x_1 : Int) (x_2 : Int) (cap : Addr) (w : World) (R : Value → World → Prop) : Eng.R Tryd.prog ⟨cal, S56_nx⟩ 14 S56_ann [] (Tryd.f56.body.getD .skip) (bodyQ Tryd.prog #[.tmp 3] R) (argE [(.agg ⟨[(.int .i64 x_0), (.int .i64 x_1), (.int .i64 x_2)]⟩), (.pointer (some cap))]) w = S56 x_0 x_1 x_2 cap w R := by kernel_rfl
/-- A call of '(*carfax/sipp.search).can$1', by its condition. -/
theorem S56_calls {x_0 : Int} {x_1 : Int} {x_2 : Int} {cap : Addr} {w : World} {R : Value → World → Prop} (hS : S56 x_0 x_1 x_2 cap w R) : Ret Tryd.prog 56 [(.agg ⟨[(.int .i64 x_0), (.int .i64 x_1), (.int .i64 x_2)]⟩), (.pointer (some cap))] w R :=
  R_calls (C := ⟨cal, S56_nx⟩) cal_ok follows Tryd.func56 (c := Tryd.f56.body.getD .skip) (res := #[.tmp 3]) (n := 14) (by kernel_rfl) (by kernel_rfl) (by kernel_rfl) (by kernel_rfl) ((S56_eq x_0 x_1 x_2 cap w R).mpr hS)

def S62_ann (p : List Nat) : Option LA := match p with
  | [0, 1] => some ⟨[0], [(2, .one (.int .i64)), (3, .one (.int .i64))]⟩
  | _ => none

def S62_nx (t : Nat) : Option (TypeId × TypeId) := none

def S62_k2 (s_a : Option Addr) (s_l : Nat) (s_c : Nat) (i : Int) (j : Int) (w : World) (R : Value → World → Prop) (B1 : (Int) × (Int) × Unit → World → Prop) : Prop :=
  B1 ((IntKind.i64.wrap (i + 1)), (IntKind.i64.wrap (j - 1)), ()) w

def S62_k1 (s_a : Option Addr) (s_l : Nat) (s_c : Nat) (i : Int) (j : Int) (w : World) (R : Value → World → Prop) (B1 : (Int) × (Int) × Unit → World → Prop) : Prop :=
  ∃ (t20 : Addr),
  s_a = some t20 ∧
  0 ≤ (j : Int) ∧
  (j : Int) < ((s_l : Nat) : Int) ∧
  ∃ (t21_0 : Int),
  w.drew.cell? (t20.add (Int.toNat j * 2)) = some (.int .i64 t21_0) ∧
  ∃ (t21_1 : Int),
  w.drew.cell? ((t20.add (Int.toNat j * 2)).add 1) = some (.int .i64 t21_1) ∧
  ∃ (t24 : Addr),
  s_a = some t24 ∧
  0 ≤ (i : Int) ∧
  (i : Int) < ((s_l : Nat) : Int) ∧
  ∃ (t25_0 : Int),
  w.drew.cell? (t24.add (Int.toNat i * 2)) = some (.int .i64 t25_0) ∧
  ∃ (t25_1 : Int),
  w.drew.cell? ((t24.add (Int.toNat i * 2)).add 1) = some (.int .i64 t25_1) ∧
  ∃ (t26 : Addr),
  s_a = some t26 ∧
  0 ≤ (i : Int) ∧
  (i : Int) < ((s_l : Nat) : Int) ∧
  (∃ u, w.drew.cell? (t26.add (Int.toNat i * 2)) = some u) ∧
  w.drew.frozen? (t26.add (Int.toNat i * 2)) = false ∧
  (∃ u, (w.drew.setCell (t26.add (Int.toNat i * 2)) (.int .i64 t21_0)).cell? ((t26.add (Int.toNat i * 2)).add 1) = some u) ∧
  (w.drew.setCell (t26.add (Int.toNat i * 2)) (.int .i64 t21_0)).frozen? ((t26.add (Int.toNat i * 2)).add 1) = false ∧
  ∃ (t27 : Addr),
  s_a = some t27 ∧
  0 ≤ (j : Int) ∧
  (j : Int) < ((s_l : Nat) : Int) ∧
  (∃ u, ((w.drew.setCell (t26.add (Int.toNat i * 2)) (.int .i64 t21_0)).setCell ((t26.add (Int.toNat i * 2)).add 1) (.int .i64 t21_1)).cell? (t27.add (Int.toNat j * 2)) = some u) ∧
  ((w.drew.setCell (t26.add (Int.toNat i * 2)) (.int .i64 t21_0)).setCell ((t26.add (Int.toNat i * 2)).add 1) (.int .i64 t21_1)).frozen? (t27.add (Int.toNat j * 2)) = false ∧
  (∃ u, (((w.drew.setCell (t26.add (Int.toNat i * 2)) (.int .i64 t21_0)).setCell ((t26.add (Int.toNat i * 2)).add 1) (.int .i64 t21_1)).setCell (t27.add (Int.toNat j * 2)) (.int .i64 t25_0)).cell? ((t27.add (Int.toNat j * 2)).add 1) = some u) ∧
  (((w.drew.setCell (t26.add (Int.toNat i * 2)) (.int .i64 t21_0)).setCell ((t26.add (Int.toNat i * 2)).add 1) (.int .i64 t21_1)).setCell (t27.add (Int.toNat j * 2)) (.int .i64 t25_0)).frozen? ((t27.add (Int.toNat j * 2)).add 1) = false ∧
  S62_k2 s_a s_l s_c i j ((((w.drew.setCell (t26.add (Int.toNat i * 2)) (.int .i64 t21_0)).setCell ((t26.add (Int.toNat i * 2)).add 1) (.int .i64 t21_1)).setCell (t27.add (Int.toNat j * 2)) (.int .i64 t25_0)).setCell ((t27.add (Int.toNat j * 2)).add 1) (.int .i64 t25_1)) R B1

def S62_L0 (s_a : Option Addr) (s_l : Nat) (s_c : Nat) (i : Int) (j : Int) (w : World) (R : Value → World → Prop) (B1 : (Int) × (Int) × Unit → World → Prop) : Prop :=
  cond (decide ((i : Int) < j)) (
    S62_k1 s_a s_l s_c i j w R B1
  ) (
    R (.tuple ⟨[]⟩) w
  )

def S62 (s_a : Option Addr) (s_l : Nat) (s_c : Nat) (w : World) (R : Value → World → Prop) : Prop :=
  ∃ (I : (Int) × (Int) × Unit → World → Prop) (μ : (Int) × (Int) × Unit → World → Nat),
  I (0, (IntKind.i64.wrap (((s_l : Nat) : Int) - 1)), ()) w ∧
  ∀ (J : Env) (s : (Int) × (Int) × Unit) (w' : World), I s w' →
    S62_L0 s_a s_l s_c s.1 s.2.1 w' R (fun s' w'' => I s' w'' ∧ μ s' w'' < μ s w')

theorem S62_eq (s_a : Option Addr) (s_l : Nat) (s_c : Nat) (w : World) (R : Value → World → Prop) : Eng.R Tryd.prog ⟨cal, S62_nx⟩ 28 S62_ann [] (Tryd.f62.body.getD .skip) (bodyQ Tryd.prog #[] R) (argE [(.slice s_a s_l s_c)]) w = S62 s_a s_l s_c w R := by kernel_rfl
/-- A call of 'slices.Reverse[[]carfax/api.Window,carfax/api.Window]', by its condition. -/
theorem S62_calls {s_a : Option Addr} {s_l : Nat} {s_c : Nat} {w : World} {R : Value → World → Prop} (hS : S62 s_a s_l s_c w R) : Ret Tryd.prog 62 [(.slice s_a s_l s_c)] w R :=
  R_calls (C := ⟨cal, S62_nx⟩) cal_ok follows Tryd.func62 (c := Tryd.f62.body.getD .skip) (res := #[]) (n := 28) (by kernel_rfl) (by kernel_rfl) (by kernel_rfl) (by kernel_rfl) ((S62_eq s_a s_l s_c w R).mpr hS)

def S63_ann (p : List Nat) : Option LA :=
  none

def S63_nx (t : Nat) : Option (TypeId × TypeId) := none

def S63_k0 (a : Addr) (b : Addr) (w : World) (R : Value → World → Prop) : Prop :=
  ∃ (t20 : Int),
  w.cell? (a.add 2) = some (.int .u64 t20) ∧
  ∃ (t22 : Int),
  w.cell? (b.add 2) = some (.int .u64 t22) ∧
  R (.bool (decide ((t20 : Int) < t22))) w

def S63 (a_0 : Int) (a_1 : Int) (a_2 : Int) (b_0 : Int) (b_1 : Int) (b_2 : Int) (w : World) (R : Value → World → Prop) : Prop :=
  ∃ (t7 : Int),
  ((w.alloc (.cells ⟨[(.int .i64 a_0), (.int .i64 a_1), (.int .u64 a_2)]⟩ 111)).alloc (.cells ⟨[(.int .i64 b_0), (.int .i64 b_1), (.int .u64 b_2)]⟩ 111)).cell? ⟨w.heap.size, 0, none⟩ = some (.int .i64 t7) ∧
  ∃ (t10 : Int),
  ((w.alloc (.cells ⟨[(.int .i64 a_0), (.int .i64 a_1), (.int .u64 a_2)]⟩ 111)).alloc (.cells ⟨[(.int .i64 b_0), (.int .i64 b_1), (.int .u64 b_2)]⟩ 111)).cell? ⟨(w.alloc (.cells ⟨[(.int .i64 a_0), (.int .i64 a_1), (.int .u64 a_2)]⟩ 111)).heap.size, 0, none⟩ = some (.int .i64 t10) ∧
  cond (!decide ((t7 : Int) = t10)) (
    ∃ (t14 : Int),
    ((w.alloc (.cells ⟨[(.int .i64 a_0), (.int .i64 a_1), (.int .u64 a_2)]⟩ 111)).alloc (.cells ⟨[(.int .i64 b_0), (.int .i64 b_1), (.int .u64 b_2)]⟩ 111)).cell? ⟨w.heap.size, 0, none⟩ = some (.int .i64 t14) ∧
    ∃ (t17 : Int),
    ((w.alloc (.cells ⟨[(.int .i64 a_0), (.int .i64 a_1), (.int .u64 a_2)]⟩ 111)).alloc (.cells ⟨[(.int .i64 b_0), (.int .i64 b_1), (.int .u64 b_2)]⟩ 111)).cell? ⟨(w.alloc (.cells ⟨[(.int .i64 a_0), (.int .i64 a_1), (.int .u64 a_2)]⟩ 111)).heap.size, 0, none⟩ = some (.int .i64 t17) ∧
    R (.bool (decide ((t14 : Int) < t17))) ((w.alloc (.cells ⟨[(.int .i64 a_0), (.int .i64 a_1), (.int .u64 a_2)]⟩ 111)).alloc (.cells ⟨[(.int .i64 b_0), (.int .i64 b_1), (.int .u64 b_2)]⟩ 111))
  ) (
    S63_k0 ⟨w.heap.size, 0, none⟩ ⟨(w.alloc (.cells ⟨[(.int .i64 a_0), (.int .i64 a_1), (.int .u64 a_2)]⟩ 111)).heap.size, 0, none⟩ ((w.alloc (.cells ⟨[(.int .i64 a_0), (.int .i64 a_1), (.int .u64 a_2)]⟩ 111)).alloc (.cells ⟨[(.int .i64 b_0), (.int .i64 b_1), (.int .u64 b_2)]⟩ 111)) R
  )

theorem S63_eq (a_0 : Int) (a_1 : Int) (a_2 : Int) (b_0 : Int) (b_1 : Int) (b_2 : Int) (w : World) (R : Value → World → Prop) : Eng.R Tryd.prog ⟨cal, S63_nx⟩ 24 S63_ann [] (Tryd.f63.body.getD .skip) (bodyQ Tryd.prog #[.tmp 4] R) (argE [(.agg ⟨[(.int .i64 a_0), (.int .i64 a_1), (.int .u64 a_2)]⟩), (.agg ⟨[(.int .i64 b_0), (.int .i64 b_1), (.int .u64 b_2)]⟩)]) w = S63 a_0 a_1 a_2 b_0 b_1 b_2 w R := by kernel_rfl
/-- A call of '(carfax/heap.entry).less', by its condition. -/
theorem S63_calls {a_0 : Int} {a_1 : Int} {a_2 : Int} {b_0 : Int} {b_1 : Int} {b_2 : Int} {w : World} {R : Value → World → Prop} (hS : S63 a_0 a_1 a_2 b_0 b_1 b_2 w R) : Ret Tryd.prog 63 [(.agg ⟨[(.int .i64 a_0), (.int .i64 a_1), (.int .u64 a_2)]⟩), (.agg ⟨[(.int .i64 b_0), (.int .i64 b_1), (.int .u64 b_2)]⟩)] w R :=
  R_calls (C := ⟨cal, S63_nx⟩) cal_ok follows Tryd.func63 (c := Tryd.f63.body.getD .skip) (res := #[.tmp 4]) (n := 24) (by kernel_rfl) (by kernel_rfl) (by kernel_rfl) (by kernel_rfl) ((S63_eq a_0 a_1 a_2 b_0 b_1 b_2 w R).mpr hS)

def S64_ann (p : List Nat) : Option LA :=
  none

def S64_nx (t : Nat) : Option (TypeId × TypeId) := none

def S64_k0 (h : Option Addr) (w : World) (R : Value → World → Prop) : Prop :=
  ∃ (t6 : Addr),
  h = some t6 ∧
  ∃ (t8_a : Option Addr) (t8_l : Nat) (t8_c : Nat),
  w.cell? t6 = some (.slice t8_a t8_l t8_c) ∧
  R (.int .i64 ((t8_l : Nat) : Int)) w

def S64 (h : Option Addr) (w : World) (R : Value → World → Prop) : Prop :=
  cond (Option.isNone h) (
    R (.int .i64 0) w
  ) (
    S64_k0 h w R
  )

theorem S64_eq (h : Option Addr) (w : World) (R : Value → World → Prop) : Eng.R Tryd.prog ⟨cal, S64_nx⟩ 10 S64_ann [] (Tryd.f64.body.getD .skip) (bodyQ Tryd.prog #[.tmp 2] R) (argE [(.pointer h)]) w = S64 h w R := by kernel_rfl
/-- A call of '(*carfax/heap.Heap).Len', by its condition. -/
theorem S64_calls {h : Option Addr} {w : World} {R : Value → World → Prop} (hS : S64 h w R) : Ret Tryd.prog 64 [(.pointer h)] w R :=
  R_calls (C := ⟨cal, S64_nx⟩) cal_ok follows Tryd.func64 (c := Tryd.f64.body.getD .skip) (res := #[.tmp 2]) (n := 10) (by kernel_rfl) (by kernel_rfl) (by kernel_rfl) (by kernel_rfl) ((S64_eq h w R).mpr hS)

def S26_f27_ann (p : List Nat) : Option LA := match p with
  | [0, 0, 1, 1, 1] => some ⟨[0, 1, 2, 8], [(9, .one (.int .i64)), (10, .one (.int .i64))]⟩
  | _ => none

def S26_f27_nx (t : Nat) : Option (TypeId × TypeId) := none

def S26_f27_k1 (x_a : Option Addr) (x_l : Nat) (x_c : Nat) (target : Int) (n_ : Int) (i : Int) (j : Int) (w : World) (R : Value → World → Prop) (B1 : (Int) × (Int) × Unit → World → Prop) : Prop :=
  0 ≤ (1 : Int) ∧
  ∃ (t27 : Addr),
  x_a = some t27 ∧
  0 ≤ ((IntKind.i64.wrap (Int.fdiv (IntKind.u64.wrap (IntKind.i64.wrap (i + j))) (2 ^ (min (Int.toNat 1) (IntKind.u64.bits))))) : Int) ∧
  ((IntKind.i64.wrap (Int.fdiv (IntKind.u64.wrap (IntKind.i64.wrap (i + j))) (2 ^ (min (Int.toNat 1) (IntKind.u64.bits))))) : Int) < ((x_l : Nat) : Int) ∧
  ∃ (t28_0 : Int),
  w.cell? (t27.add (Int.toNat (IntKind.i64.wrap (Int.fdiv (IntKind.u64.wrap (IntKind.i64.wrap (i + j))) (2 ^ (min (Int.toNat 1) (IntKind.u64.bits))))) * 2)) = some (.int .i64 t28_0) ∧
  ∃ (t28_1 : Int),
  w.cell? ((t27.add (Int.toNat (IntKind.i64.wrap (Int.fdiv (IntKind.u64.wrap (IntKind.i64.wrap (i + j))) (2 ^ (min (Int.toNat 1) (IntKind.u64.bits))))) * 2)).add 1) = some (.int .i64 t28_1) ∧
  Calls Tryd.prog 27 ⟨[(.agg ⟨[(.int .i64 t28_0), (.int .i64 t28_1)]⟩), (.int .i64 target)]⟩ w fun e w_ =>
    ∃ (t30 : Int),
    e = .returned (.int .i64 t30) ∧
    cond (decide ((t30 : Int) < 0)) (
      B1 ((IntKind.i64.wrap ((IntKind.i64.wrap (Int.fdiv (IntKind.u64.wrap (IntKind.i64.wrap (i + j))) (2 ^ (min (Int.toNat 1) (IntKind.u64.bits))))) + 1)), j, ()) w_
    ) (
      B1 (i, (IntKind.i64.wrap (Int.fdiv (IntKind.u64.wrap (IntKind.i64.wrap (i + j))) (2 ^ (min (Int.toNat 1) (IntKind.u64.bits))))), ()) w_
    )

def S26_f27_k2 (x_a : Option Addr) (x_l : Nat) (x_c : Nat) (target : Int) (n_ : Int) (i : Int) (w : World) (R : Value → World → Prop) : Prop :=
  cond (decide ((i : Int) < n_)) (
    ∃ (t43 : Addr),
    x_a = some t43 ∧
    0 ≤ (i : Int) ∧
    (i : Int) < ((x_l : Nat) : Int) ∧
    ∃ (t44_0 : Int),
    w.cell? (t43.add (Int.toNat i * 2)) = some (.int .i64 t44_0) ∧
    ∃ (t44_1 : Int),
    w.cell? ((t43.add (Int.toNat i * 2)).add 1) = some (.int .i64 t44_1) ∧
    Calls Tryd.prog 27 ⟨[(.agg ⟨[(.int .i64 t44_0), (.int .i64 t44_1)]⟩), (.int .i64 target)]⟩ w fun e w_ =>
      ∃ (t46 : Int),
      e = .returned (.int .i64 t46) ∧
      R (.tuple ⟨[(.int .i64 i), (.bool (decide ((t46 : Int) = 0)))]⟩) w_
  ) (
    R (.tuple ⟨[(.int .i64 i), (.bool false)]⟩) w
  )

def S26_f27_L0 (x_a : Option Addr) (x_l : Nat) (x_c : Nat) (target : Int) (n_ : Int) (i : Int) (j : Int) (w : World) (R : Value → World → Prop) (B1 : (Int) × (Int) × Unit → World → Prop) : Prop :=
  cond (decide ((i : Int) < j)) (
    S26_f27_k1 x_a x_l x_c target n_ i j w R B1
  ) (
    S26_f27_k2 x_a x_l x_c target n_ i w R
  )

def S26_f27 (x_a : Option Addr) (x_l : Nat) (x_c : Nat) (target : Int) (w : World) (R : Value → World → Prop) : Prop :=
  ∃ (I : (Int) × (Int) × Unit → World → Prop) (μ : (Int) × (Int) × Unit → World → Nat),
  I (0, ((x_l : Nat) : Int), ()) w ∧
  ∀ (J : Env) (s : (Int) × (Int) × Unit) (w' : World), I s w' →
    S26_f27_L0 x_a x_l x_c target ((x_l : Nat) : Int) s.1 s.2.1 w' R (fun s' w'' => I s' w'' ∧ μ s' w'' < μ s w')

theorem S26_f27_eq (x_a : Option Addr) (x_l : Nat) (x_c : Nat) (target : Int) (w : World) (R : Value → World → Prop) : Eng.R Tryd.prog ⟨cal, S26_f27_nx⟩ 49 S26_f27_ann [] (Tryd.f26.body.getD .skip) (bodyQ Tryd.prog #[.tmp 6, .tmp 7] R) (argE [(.slice x_a x_l x_c), (.int .i64 target), (.func (.func 27) ⟨[]⟩ ⟨[]⟩)]) w = S26_f27 x_a x_l x_c target w R := by kernel_rfl
/-- A call of 'slices.BinarySearchFunc[[]carfax/api.Window,carfax/api.Window,int]', by its condition. -/
theorem S26_f27_calls {x_a : Option Addr} {x_l : Nat} {x_c : Nat} {target : Int} {w : World} {R : Value → World → Prop} (hS : S26_f27 x_a x_l x_c target w R) : Ret Tryd.prog 26 [(.slice x_a x_l x_c), (.int .i64 target), (.func (.func 27) ⟨[]⟩ ⟨[]⟩)] w R :=
  R_calls (C := ⟨cal, S26_f27_nx⟩) cal_ok follows Tryd.func26 (c := Tryd.f26.body.getD .skip) (res := #[.tmp 6, .tmp 7]) (n := 49) (by kernel_rfl) (by kernel_rfl) (by kernel_rfl) (by kernel_rfl) ((S26_f27_eq x_a x_l x_c target w R).mpr hS)

def S54_f55_ann (p : List Nat) : Option LA :=
  none

def S54_f55_nx (t : Nat) : Option (TypeId × TypeId) := none

def S54_f55 (s_a : Option Addr) (s_l : Nat) (s_c : Nat) (cap : Addr) (w : World) (R : Value → World → Prop) : Prop :=
  Calls Tryd.prog 65 ⟨[(.slice s_a s_l s_c), (.func (.func 55) ⟨[]⟩ ⟨[(.pointer (some cap))]⟩)]⟩ w fun e w_ =>
    ∃ (t7 : Int),
    e = .returned (.int .i64 t7) ∧
    R (.bool (decide ((0 : Int) ≤ t7))) w_

theorem S54_f55_eq (s_a : Option Addr) (s_l : Nat) (s_c : Nat) (cap : Addr) (w : World) (R : Value → World → Prop) : Eng.R Tryd.prog ⟨cal, S54_f55_nx⟩ 9 S54_f55_ann [] (Tryd.f54.body.getD .skip) (bodyQ Tryd.prog #[.tmp 4] R) (argE [(.slice s_a s_l s_c), (.func (.func 55) ⟨[]⟩ ⟨[(.pointer (some cap))]⟩)]) w = S54_f55 s_a s_l s_c cap w R := by kernel_rfl
/-- A call of 'slices.ContainsFunc[[]carfax/sipp.stay,carfax/sipp.stay]', by its condition. -/
theorem S54_f55_calls {s_a : Option Addr} {s_l : Nat} {s_c : Nat} {cap : Addr} {w : World} {R : Value → World → Prop} (hS : S54_f55 s_a s_l s_c cap w R) : Ret Tryd.prog 54 [(.slice s_a s_l s_c), (.func (.func 55) ⟨[]⟩ ⟨[(.pointer (some cap))]⟩)] w R :=
  R_calls (C := ⟨cal, S54_f55_nx⟩) cal_ok follows Tryd.func54 (c := Tryd.f54.body.getD .skip) (res := #[.tmp 4]) (n := 9) (by kernel_rfl) (by kernel_rfl) (by kernel_rfl) (by kernel_rfl) ((S54_f55_eq s_a s_l s_c cap w R).mpr hS)

def S54_f56_ann (p : List Nat) : Option LA :=
  none

def S54_f56_nx (t : Nat) : Option (TypeId × TypeId) := none

def S54_f56 (s_a : Option Addr) (s_l : Nat) (s_c : Nat) (cap : Addr) (w : World) (R : Value → World → Prop) : Prop :=
  Calls Tryd.prog 65 ⟨[(.slice s_a s_l s_c), (.func (.func 56) ⟨[]⟩ ⟨[(.pointer (some cap))]⟩)]⟩ w fun e w_ =>
    ∃ (t7 : Int),
    e = .returned (.int .i64 t7) ∧
    R (.bool (decide ((0 : Int) ≤ t7))) w_

theorem S54_f56_eq (s_a : Option Addr) (s_l : Nat) (s_c : Nat) (cap : Addr) (w : World) (R : Value → World → Prop) : Eng.R Tryd.prog ⟨cal, S54_f56_nx⟩ 9 S54_f56_ann [] (Tryd.f54.body.getD .skip) (bodyQ Tryd.prog #[.tmp 4] R) (argE [(.slice s_a s_l s_c), (.func (.func 56) ⟨[]⟩ ⟨[(.pointer (some cap))]⟩)]) w = S54_f56 s_a s_l s_c cap w R := by kernel_rfl
/-- A call of 'slices.ContainsFunc[[]carfax/sipp.stay,carfax/sipp.stay]', by its condition. -/
theorem S54_f56_calls {s_a : Option Addr} {s_l : Nat} {s_c : Nat} {cap : Addr} {w : World} {R : Value → World → Prop} (hS : S54_f56 s_a s_l s_c cap w R) : Ret Tryd.prog 54 [(.slice s_a s_l s_c), (.func (.func 56) ⟨[]⟩ ⟨[(.pointer (some cap))]⟩)] w R :=
  R_calls (C := ⟨cal, S54_f56_nx⟩) cal_ok follows Tryd.func54 (c := Tryd.f54.body.getD .skip) (res := #[.tmp 4]) (n := 9) (by kernel_rfl) (by kernel_rfl) (by kernel_rfl) (by kernel_rfl) ((S54_f56_eq s_a s_l s_c cap w R).mpr hS)

def S65_f55_ann (p : List Nat) : Option LA := match p with
  | [0, 1, 0, 1] => some ⟨[0, 1, 7], [(8, .one (.int .i64))]⟩
  | _ => none

def S65_f55_nx (t : Nat) : Option (TypeId × TypeId) := none

def S65_f55_k1 (s_a : Option Addr) (s_l : Nat) (s_c : Nat) (f_c0 : Addr) (t7 : Int) (t8 : Int) (w : World) (R : Value → World → Prop) (B1 : (Int) × Unit → World → Prop) : Prop :=
  ∃ (t14 : Addr),
  s_a = some t14 ∧
  0 ≤ (t8 : Int) ∧
  (t8 : Int) < ((s_l : Nat) : Int) ∧
  ∃ (t15_0 : Int),
  w.cell? (t14.add (Int.toNat t8 * 3)) = some (.int .i64 t15_0) ∧
  ∃ (t15_1 : Int),
  w.cell? ((t14.add (Int.toNat t8 * 3)).add 1) = some (.int .i64 t15_1) ∧
  ∃ (t15_2 : Int),
  w.cell? ((t14.add (Int.toNat t8 * 3)).add 2) = some (.int .i64 t15_2) ∧
  Calls Tryd.prog 55 ⟨[(.agg ⟨[(.int .i64 t15_0), (.int .i64 t15_1), (.int .i64 t15_2)]⟩), (.pointer (some f_c0))]⟩ w fun e w_ =>
    ∃ (t16 : Bool),
    e = .returned (.bool t16) ∧
    cond t16 (
      R (.int .i64 t8) w_
    ) (
      B1 ((IntKind.i64.wrap (t8 + 1)), ()) w_
    )

def S65_f55_L0 (s_a : Option Addr) (s_l : Nat) (s_c : Nat) (f_c0 : Addr) (t7 : Int) (t8 : Int) (w : World) (R : Value → World → Prop) (B1 : (Int) × Unit → World → Prop) : Prop :=
  cond (decide ((t8 : Int) < t7)) (
    S65_f55_k1 s_a s_l s_c f_c0 t7 t8 w R B1
  ) (
    R (.int .i64 (-1)) w
  )

def S65_f55 (s_a : Option Addr) (s_l : Nat) (s_c : Nat) (cap : Addr) (w : World) (R : Value → World → Prop) : Prop :=
  ∃ (I : (Int) × Unit → World → Prop) (μ : (Int) × Unit → World → Nat),
  I (0, ()) w ∧
  ∀ (J : Env) (s : (Int) × Unit) (w' : World), I s w' →
    S65_f55_L0 s_a s_l s_c cap ((s_l : Nat) : Int) s.1 w' R (fun s' w'' => I s' w'' ∧ μ s' w'' < μ s w')

theorem S65_f55_eq (s_a : Option Addr) (s_l : Nat) (s_c : Nat) (cap : Addr) (w : World) (R : Value → World → Prop) : Eng.R Tryd.prog ⟨cal, S65_f55_nx⟩ 19 S65_f55_ann [] (Tryd.f65.body.getD .skip) (bodyQ Tryd.prog #[.tmp 4] R) (argE [(.slice s_a s_l s_c), (.func (.func 55) ⟨[]⟩ ⟨[(.pointer (some cap))]⟩)]) w = S65_f55 s_a s_l s_c cap w R := by kernel_rfl
/-- A call of 'slices.IndexFunc[[]carfax/sipp.stay,carfax/sipp.stay]', by its condition. -/
theorem S65_f55_calls {s_a : Option Addr} {s_l : Nat} {s_c : Nat} {cap : Addr} {w : World} {R : Value → World → Prop} (hS : S65_f55 s_a s_l s_c cap w R) : Ret Tryd.prog 65 [(.slice s_a s_l s_c), (.func (.func 55) ⟨[]⟩ ⟨[(.pointer (some cap))]⟩)] w R :=
  R_calls (C := ⟨cal, S65_f55_nx⟩) cal_ok follows Tryd.func65 (c := Tryd.f65.body.getD .skip) (res := #[.tmp 4]) (n := 19) (by kernel_rfl) (by kernel_rfl) (by kernel_rfl) (by kernel_rfl) ((S65_f55_eq s_a s_l s_c cap w R).mpr hS)

def S65_f56_ann (p : List Nat) : Option LA := match p with
  | [0, 1, 0, 1] => some ⟨[0, 1, 7], [(8, .one (.int .i64))]⟩
  | _ => none

def S65_f56_nx (t : Nat) : Option (TypeId × TypeId) := none

def S65_f56_k1 (s_a : Option Addr) (s_l : Nat) (s_c : Nat) (f_c0 : Addr) (t7 : Int) (t8 : Int) (w : World) (R : Value → World → Prop) (B1 : (Int) × Unit → World → Prop) : Prop :=
  ∃ (t14 : Addr),
  s_a = some t14 ∧
  0 ≤ (t8 : Int) ∧
  (t8 : Int) < ((s_l : Nat) : Int) ∧
  ∃ (t15_0 : Int),
  w.cell? (t14.add (Int.toNat t8 * 3)) = some (.int .i64 t15_0) ∧
  ∃ (t15_1 : Int),
  w.cell? ((t14.add (Int.toNat t8 * 3)).add 1) = some (.int .i64 t15_1) ∧
  ∃ (t15_2 : Int),
  w.cell? ((t14.add (Int.toNat t8 * 3)).add 2) = some (.int .i64 t15_2) ∧
  Calls Tryd.prog 56 ⟨[(.agg ⟨[(.int .i64 t15_0), (.int .i64 t15_1), (.int .i64 t15_2)]⟩), (.pointer (some f_c0))]⟩ w fun e w_ =>
    ∃ (t16 : Bool),
    e = .returned (.bool t16) ∧
    cond t16 (
      R (.int .i64 t8) w_
    ) (
      B1 ((IntKind.i64.wrap (t8 + 1)), ()) w_
    )

def S65_f56_L0 (s_a : Option Addr) (s_l : Nat) (s_c : Nat) (f_c0 : Addr) (t7 : Int) (t8 : Int) (w : World) (R : Value → World → Prop) (B1 : (Int) × Unit → World → Prop) : Prop :=
  cond (decide ((t8 : Int) < t7)) (
    S65_f56_k1 s_a s_l s_c f_c0 t7 t8 w R B1
  ) (
    R (.int .i64 (-1)) w
  )

def S65_f56 (s_a : Option Addr) (s_l : Nat) (s_c : Nat) (cap : Addr) (w : World) (R : Value → World → Prop) : Prop :=
  ∃ (I : (Int) × Unit → World → Prop) (μ : (Int) × Unit → World → Nat),
  I (0, ()) w ∧
  ∀ (J : Env) (s : (Int) × Unit) (w' : World), I s w' →
    S65_f56_L0 s_a s_l s_c cap ((s_l : Nat) : Int) s.1 w' R (fun s' w'' => I s' w'' ∧ μ s' w'' < μ s w')

theorem S65_f56_eq (s_a : Option Addr) (s_l : Nat) (s_c : Nat) (cap : Addr) (w : World) (R : Value → World → Prop) : Eng.R Tryd.prog ⟨cal, S65_f56_nx⟩ 19 S65_f56_ann [] (Tryd.f65.body.getD .skip) (bodyQ Tryd.prog #[.tmp 4] R) (argE [(.slice s_a s_l s_c), (.func (.func 56) ⟨[]⟩ ⟨[(.pointer (some cap))]⟩)]) w = S65_f56 s_a s_l s_c cap w R := by kernel_rfl
/-- A call of 'slices.IndexFunc[[]carfax/sipp.stay,carfax/sipp.stay]', by its condition. -/
theorem S65_f56_calls {s_a : Option Addr} {s_l : Nat} {s_c : Nat} {cap : Addr} {w : World} {R : Value → World → Prop} (hS : S65_f56 s_a s_l s_c cap w R) : Ret Tryd.prog 65 [(.slice s_a s_l s_c), (.func (.func 56) ⟨[]⟩ ⟨[(.pointer (some cap))]⟩)] w R :=
  R_calls (C := ⟨cal, S65_f56_nx⟩) cal_ok follows Tryd.func65 (c := Tryd.f65.body.getD .skip) (res := #[.tmp 4]) (n := 19) (by kernel_rfl) (by kernel_rfl) (by kernel_rfl) (by kernel_rfl) ((S65_f56_eq s_a s_l s_c cap w R).mpr hS)

end Go.Proofs
