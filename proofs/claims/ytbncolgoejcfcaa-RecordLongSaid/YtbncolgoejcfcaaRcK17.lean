/- The laws of records: acts, what is taken, cuts, back. -/
import Derived.Test.YtbncolgoejcfcaaRcJ17
set_option linter.unusedVariables false
namespace Go.Proofs
open Go Go.Eng
/-- A record stored in a new place. -/
theorem rstore (w : World) (z : Rc) :
    ((∃ u, (w.alloc (.cells ⟨[.int .u8 0, .int .i64 0, .int .i64 0, .int .i64 0, .int .i64 0, .int .i64 0]⟩ 23)).cell? ⟨w.heap.size, 0, none⟩ = some u) ∧ (w.alloc (.cells ⟨[.int .u8 0, .int .i64 0, .int .i64 0, .int .i64 0, .int .i64 0, .int .i64 0]⟩ 23)).frozen? ⟨w.heap.size, 0, none⟩ = false) ∧
    ((∃ u, ((w.alloc (.cells ⟨[.int .u8 0, .int .i64 0, .int .i64 0, .int .i64 0, .int .i64 0, .int .i64 0]⟩ 23)).setCell ⟨w.heap.size, 0, none⟩ (.int .u8 z.k)).cell? ⟨w.heap.size, 1, none⟩ = some u) ∧ ((w.alloc (.cells ⟨[.int .u8 0, .int .i64 0, .int .i64 0, .int .i64 0, .int .i64 0, .int .i64 0]⟩ 23)).setCell ⟨w.heap.size, 0, none⟩ (.int .u8 z.k)).frozen? ⟨w.heap.size, 1, none⟩ = false) ∧
    ((∃ u, (((w.alloc (.cells ⟨[.int .u8 0, .int .i64 0, .int .i64 0, .int .i64 0, .int .i64 0, .int .i64 0]⟩ 23)).setCell ⟨w.heap.size, 0, none⟩ (.int .u8 z.k)).setCell ⟨w.heap.size, 1, none⟩ (.int .i64 z.i)).cell? ⟨w.heap.size, 2, none⟩ = some u) ∧ (((w.alloc (.cells ⟨[.int .u8 0, .int .i64 0, .int .i64 0, .int .i64 0, .int .i64 0, .int .i64 0]⟩ 23)).setCell ⟨w.heap.size, 0, none⟩ (.int .u8 z.k)).setCell ⟨w.heap.size, 1, none⟩ (.int .i64 z.i)).frozen? ⟨w.heap.size, 2, none⟩ = false) ∧
    ((∃ u, ((((w.alloc (.cells ⟨[.int .u8 0, .int .i64 0, .int .i64 0, .int .i64 0, .int .i64 0, .int .i64 0]⟩ 23)).setCell ⟨w.heap.size, 0, none⟩ (.int .u8 z.k)).setCell ⟨w.heap.size, 1, none⟩ (.int .i64 z.i)).setCell ⟨w.heap.size, 2, none⟩ (.int .i64 z.r)).cell? ⟨w.heap.size, 3, none⟩ = some u) ∧ ((((w.alloc (.cells ⟨[.int .u8 0, .int .i64 0, .int .i64 0, .int .i64 0, .int .i64 0, .int .i64 0]⟩ 23)).setCell ⟨w.heap.size, 0, none⟩ (.int .u8 z.k)).setCell ⟨w.heap.size, 1, none⟩ (.int .i64 z.i)).setCell ⟨w.heap.size, 2, none⟩ (.int .i64 z.r)).frozen? ⟨w.heap.size, 3, none⟩ = false) ∧
    ((∃ u, (((((w.alloc (.cells ⟨[.int .u8 0, .int .i64 0, .int .i64 0, .int .i64 0, .int .i64 0, .int .i64 0]⟩ 23)).setCell ⟨w.heap.size, 0, none⟩ (.int .u8 z.k)).setCell ⟨w.heap.size, 1, none⟩ (.int .i64 z.i)).setCell ⟨w.heap.size, 2, none⟩ (.int .i64 z.r)).setCell ⟨w.heap.size, 3, none⟩ (.int .i64 z.p)).cell? ⟨w.heap.size, 4, none⟩ = some u) ∧ (((((w.alloc (.cells ⟨[.int .u8 0, .int .i64 0, .int .i64 0, .int .i64 0, .int .i64 0, .int .i64 0]⟩ 23)).setCell ⟨w.heap.size, 0, none⟩ (.int .u8 z.k)).setCell ⟨w.heap.size, 1, none⟩ (.int .i64 z.i)).setCell ⟨w.heap.size, 2, none⟩ (.int .i64 z.r)).setCell ⟨w.heap.size, 3, none⟩ (.int .i64 z.p)).frozen? ⟨w.heap.size, 4, none⟩ = false) ∧
    ((∃ u, ((((((w.alloc (.cells ⟨[.int .u8 0, .int .i64 0, .int .i64 0, .int .i64 0, .int .i64 0, .int .i64 0]⟩ 23)).setCell ⟨w.heap.size, 0, none⟩ (.int .u8 z.k)).setCell ⟨w.heap.size, 1, none⟩ (.int .i64 z.i)).setCell ⟨w.heap.size, 2, none⟩ (.int .i64 z.r)).setCell ⟨w.heap.size, 3, none⟩ (.int .i64 z.p)).setCell ⟨w.heap.size, 4, none⟩ (.int .i64 z.c)).cell? ⟨w.heap.size, 5, none⟩ = some u) ∧ ((((((w.alloc (.cells ⟨[.int .u8 0, .int .i64 0, .int .i64 0, .int .i64 0, .int .i64 0, .int .i64 0]⟩ 23)).setCell ⟨w.heap.size, 0, none⟩ (.int .u8 z.k)).setCell ⟨w.heap.size, 1, none⟩ (.int .i64 z.i)).setCell ⟨w.heap.size, 2, none⟩ (.int .i64 z.r)).setCell ⟨w.heap.size, 3, none⟩ (.int .i64 z.p)).setCell ⟨w.heap.size, 4, none⟩ (.int .i64 z.c)).frozen? ⟨w.heap.size, 5, none⟩ = false) ∧
    ∃ w', ((((((w.alloc (.cells ⟨[.int .u8 0, .int .i64 0, .int .i64 0, .int .i64 0, .int .i64 0, .int .i64 0]⟩ 23)).setCell ⟨w.heap.size, 0, none⟩ (.int .u8 z.k)).setCell ⟨w.heap.size, 1, none⟩ (.int .i64 z.i)).setCell ⟨w.heap.size, 2, none⟩ (.int .i64 z.r)).setCell ⟨w.heap.size, 3, none⟩ (.int .i64 z.p)).setCell ⟨w.heap.size, 4, none⟩ (.int .i64 z.c)).setCell ⟨w.heap.size, 5, none⟩ (.int .i64 z.q) = w' ∧ RcB w' w.heap.size z ∧ Fr none1 w w' := by
  have bx := Blk.new w 23 (rcell rc0)
  have f0 : Fr none1 w (w.alloc (.cells ⟨[.int .u8 0, .int .i64 0, .int .i64 0, .int .i64 0, .int .i64 0, .int .i64 0]⟩ 23)) := Fr.alloc _ _
  obtain ⟨a0, a1, a2, a3, a4, a5, k, f⟩ := bx.wr6 (.int .u8 z.k) (.int .i64 z.i) (.int .i64 z.r) (.int .i64 z.p) (.int .i64 z.c) (.int .i64 z.q)
  exact ⟨a0, a1, a2, a3, a4, a5, _, rfl, k, f0.trans f fun k hk e => by subst e; omega⟩
theorem astore (w : World) (z : Ac) :
    ((∃ u, (w.alloc (.cells ⟨[.int .u8 0, .int .i64 0, .int .i64 0]⟩ 31)).cell? ⟨w.heap.size, 0, none⟩ = some u) ∧ (w.alloc (.cells ⟨[.int .u8 0, .int .i64 0, .int .i64 0]⟩ 31)).frozen? ⟨w.heap.size, 0, none⟩ = false) ∧
    ((∃ u, ((w.alloc (.cells ⟨[.int .u8 0, .int .i64 0, .int .i64 0]⟩ 31)).setCell ⟨w.heap.size, 0, none⟩ (.int .u8 z.k)).cell? ⟨w.heap.size, 1, none⟩ = some u) ∧ ((w.alloc (.cells ⟨[.int .u8 0, .int .i64 0, .int .i64 0]⟩ 31)).setCell ⟨w.heap.size, 0, none⟩ (.int .u8 z.k)).frozen? ⟨w.heap.size, 1, none⟩ = false) ∧
    ((∃ u, (((w.alloc (.cells ⟨[.int .u8 0, .int .i64 0, .int .i64 0]⟩ 31)).setCell ⟨w.heap.size, 0, none⟩ (.int .u8 z.k)).setCell ⟨w.heap.size, 1, none⟩ (.int .i64 z.c)).cell? ⟨w.heap.size, 2, none⟩ = some u) ∧ (((w.alloc (.cells ⟨[.int .u8 0, .int .i64 0, .int .i64 0]⟩ 31)).setCell ⟨w.heap.size, 0, none⟩ (.int .u8 z.k)).setCell ⟨w.heap.size, 1, none⟩ (.int .i64 z.c)).frozen? ⟨w.heap.size, 2, none⟩ = false) ∧
    ∃ w', (((w.alloc (.cells ⟨[.int .u8 0, .int .i64 0, .int .i64 0]⟩ 31)).setCell ⟨w.heap.size, 0, none⟩ (.int .u8 z.k)).setCell ⟨w.heap.size, 1, none⟩ (.int .i64 z.c)).setCell ⟨w.heap.size, 2, none⟩ (.int .i64 z.p) = w' ∧ AcB w' w.heap.size z ∧ Fr none1 w w' := by
  obtain ⟨bx, f0⟩ := AcB.new w ac0
  obtain ⟨a0, a1, a2, k, f⟩ := Blk.wr3 bx (.int .u8 z.k) (.int .i64 z.c) (.int .i64 z.p)
  exact ⟨a0, a1, a2, _, rfl, k, f0.trans f fun k hk e => by subst e; omega⟩
theorem recordActs_ok (x : Ac) (w : World) : Ret Try.prog 5 [aval x] w fun v w' => v = .bool true ∧ Fr none1 w w' := by
  apply S5_calls
  obtain ⟨b0, f0⟩ := AcB.new w x
  unfold S5
  generalize hw1 : w.alloc (.cells ⟨[.int .u8 x.k, .int .i64 x.c, .int .i64 x.p]⟩ 31) = w1
  have hw1' : w.alloc (.cells ⟨acell x⟩ 31) = w1 := hw1
  rw [hw1'] at b0 f0
  generalize hrr : w.heap.size = r at b0 ⊢
  refine ⟨_, b0.c0, _, b0.c1, _, b0.c2, ?_⟩
  refine (alay_ok x w1).use ?_
  rintro v w2 ⟨A1, c1, rfl, o1, f1⟩
  have b2 := Blk.fr b0 f1 fun h => h
  refine ⟨_, _, _, _, rfl, _, AcB.c0 b2, _, AcB.c1 b2, _, AcB.c2 b2, ?_⟩
  refine (falay_ok x w2).use ?_
  rintro v w3 ⟨A2, c2, rfl, o2, f2⟩
  have b3 := Blk.fr b2 f2 fun h => h
  refine ⟨_, _, _, _, rfl, ?_⟩
  have hlen : (alayV x).1.length ≤ 1000000 := by
    unfold alayV; split
    · simp only [pk_length, ab_len]; decide
    · simp
  have o1' := o1.fr f2 fun _ _ _ h => h
  refine (atake_ok (c := c1) o1'.rd hlen).use ?_
  rintro v w4 ⟨rfl, f3⟩
  have b4 := Blk.fr b3 f3 fun h => h
  obtain ⟨a0, a1, a2, w5, e5, by5, f5⟩ := astore w4 (atakeV (alayV x).1).1
  refine ⟨_, _, _, _, rfl, a0.1, a0.2, a1.1, a1.2, a2.1, a2.2, ?_⟩
  have b5 := Blk.fr b4 f5 fun h => h
  have f35 := f3.trans' f5
  rw [e5]
  refine (shown_ok w5).use ?_
  rintro v w6 ⟨rfl, f6⟩
  have b6 := Blk.fr b5 f6 fun h => h
  have by6 := Blk.fr by5 f6 fun h => h
  have f36 := f35.trans' f6
  have r1 := run_toString Uby Uu8 Ustr (c := c1) rfl (o1'.fr f36 fun _ _ _ h => h).rd
  have r2 := run_toString Uby Uu8 Ustr (c := c2) rfl (o2.fr f36 fun _ _ _ h => h).rd
  have fin : Value.bool true = .bool true ∧ Fr none1 w w6 := ⟨rfl, f0.trans' (f1.trans' (f2.trans' f36))⟩
  refine ⟨_, rfl, cT rfl ⟨_, w6, r1, _, w6, r2, cT (decide_eq_true rfl) (cT (decide_eq_true rfl) ?_)⟩⟩
  by_cases hm : may x
  · have el : alayV x = (pk (ab x), 0) := if_pos hm
    have et : atakeV (alayV x).1 = (x, 0) := by rw [el]; exact atake_lay hm
    have e0 : (alayV x).2 = 0 := by rw [el]
    rw [et] at by6
    refine cT (by rw [e0]; rfl) (cT (by rw [et]; rfl) ⟨_, AcB.c0 by6, _, AcB.c1 by6, _, AcB.c2 by6, _, AcB.c0 b6, _, AcB.c1 b6, _, AcB.c2 b6, _, w6, act_eq x x _ _ w6, cT (decide_eq_true rfl) fin⟩)
  · have el : alayV x = ([], 1) := if_neg hm
    rw [el]
    exact cF rfl (cT rfl fin)
theorem recordTakes_ok {w : World} {A : Option Addr} {c : Nat} {xs : Bs} {ok : Nat → Prop} (h : Rd w ok A (bvs xs)) : Ret Try.prog 8 [.slice A xs.length c] w fun v w' => v = .bool true ∧ Fr none1 w w' := by
  apply S8_calls
  refine (shown_ok w).use ?_
  rintro v w1 ⟨rfl, f1⟩
  refine ⟨_, rfl, cD (fun _ => ⟨rfl, f1⟩) (fun hl => ?_)⟩
  have h1 := h.fr f1 fun _ _ _ h => h
  have hm : xs.length ≤ 1000000 := by omega
  refine (take_ok (c := c) h1 hm).use ?_
  rintro v w2 ⟨rfl, f2⟩
  obtain ⟨a0, a1, a2, a3, a4, a5, w3, e3, x3, f3⟩ := rstore w2 (takeV xs).1
  refine ⟨_, _, _, _, _, _, _, rfl, a0.1, a0.2, a1.1, a1.2, a2.1, a2.2, a3.1, a3.2, a4.1, a4.2, a5.1, a5.2, ?_⟩
  have h3 := (h1.fr f2 fun _ _ _ h => h).fr f3 fun _ _ _ h => h
  have f13 := f1.trans' (f2.trans' f3)
  rw [e3]
  refine (ftake_ok (c := c) h3 hm).use ?_
  rintro v w4 ⟨rfl, f4⟩
  obtain ⟨a0, a1, a2, a3, a4, a5, w5, e5, y5, f5⟩ := rstore w4 (takeV xs).1
  refine ⟨_, _, _, _, _, _, _, rfl, a0.1, a0.2, a1.1, a1.2, a2.1, a2.2, a3.1, a3.2, a4.1, a4.2, a5.1, a5.2, ?_⟩
  have x5 := Blk.fr (Blk.fr x3 f4 fun h => h) f5 fun h => h
  have h5 := (h3.fr f4 fun _ _ _ h => h).fr f5 fun _ _ _ h => h
  have f15 := f13.trans' (f4.trans' f5)
  rw [e5]
  refine (atake_ok (c := c) h5 hm).use ?_
  rintro v w6 ⟨rfl, f6⟩
  obtain ⟨a0, a1, a2, w7, e7, v7, f7⟩ := astore w6 (atakeV xs).1
  refine ⟨_, _, _, _, rfl, a0.1, a0.2, a1.1, a1.2, a2.1, a2.2, ?_⟩
  have f67 := f6.trans' f7
  have h7 := h5.fr f67 fun _ _ _ h => h
  have x7 := Blk.fr x5 f67 fun h => h
  have y7 := Blk.fr y5 f67 fun h => h
  have f17 := f15.trans' f67
  rw [e7]
  refine (fatake_ok (c := c) h7 hm).use ?_
  rintro v w8 ⟨rfl, f8⟩
  obtain ⟨a0, a1, a2, w9, e9, z9, f9⟩ := astore w8 (atakeV xs).1
  refine ⟨_, _, _, _, rfl, a0.1, a0.2, a1.1, a1.2, a2.1, a2.2, ?_⟩
  have f89 := f8.trans' f9
  have x9 := Blk.fr x7 f89 fun h => h
  have y9 := Blk.fr y7 f89 fun h => h
  have v9 := Blk.fr v7 f89 fun h => h
  have f19 := f17.trans' f89
  rw [e9]
  exact cT rfl ⟨_, RcB.c0 x9, _, RcB.c1 x9, _, RcB.c2 x9, _, RcB.c3 x9, _, RcB.c4 x9, _, RcB.c5 x9, _, RcB.c0 y9, _, RcB.c1 y9, _, RcB.c2 y9, _, RcB.c3 y9, _, RcB.c4 y9, _, RcB.c5 y9, _, w9, rec_eq (takeV xs).1 (takeV xs).1 _ _ w9, cT (decide_eq_true rfl) (cT (decide_eq_true rfl)
    ⟨_, AcB.c0 v9, _, AcB.c1 v9, _, AcB.c2 v9, _, AcB.c0 z9, _, AcB.c1 z9, _, AcB.c2 z9, _, w9, act_eq (atakeV xs).1 (atakeV xs).1 _ _ w9, cT (decide_eq_true rfl) ⟨by rw [decide_eq_true rfl], f19⟩⟩)⟩
end Go.Proofs
