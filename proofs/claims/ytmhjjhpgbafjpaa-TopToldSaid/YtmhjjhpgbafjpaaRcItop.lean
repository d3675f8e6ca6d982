/- Whether records, and acts, are the same; copies of them. -/
import Derived.Test.YtmhjjhpgbafjpaaRcHtop
set_option linter.unusedVariables false
set_option maxRecDepth 100000
namespace Go.Proofs
open Go Go.Eng
theorem rec_eqIn (x y : Rc) (w : World) : (Op.equalIn 10000 33 (.agg #[.int .u8 x.k, .int .i64 x.i, .int .i64 x.r, .int .i64 x.p, .int .i64 x.c, .int .i64 x.q]) (.agg #[.int .u8 y.k, .int .i64 y.i, .int .i64 y.r, .int .i64 y.p, .int .i64 y.c, .int .i64 y.q])).run Try.prog w = .ok (decide (x = y)) w := by
  have u3 := Try.underlying3
  have a3 := Try.isAgg3
  have z3 := Try.sizeOf3
  have u5 := Try.underlying5
  have a5 := Try.isAgg5
  have z5 := Try.sizeOf5
  have hS : Try.prog.underlying 33 = some (.struct (Try.prog.fieldsOf 33)) := by kernel_rfl
  have hp : Try.prog.stoodInHeld 33 = false := by kernel_rfl
  have hx : decide (x = y) = (x.k == y.k && (x.i == y.i && (x.r == y.r && (x.p == y.p && (x.c == y.c && x.q == y.q))))) := by
    rw [Bool.eq_iff_iff]
    cases x
    cases y
    simp
  rw [hx]
  generalize x.k = a0
  generalize y.k = b0
  generalize x.i = a1
  generalize y.i = b1
  generalize x.r = a2
  generalize y.r = b2
  generalize x.p = a3
  generalize y.p = b3
  generalize x.c = a4
  generalize y.c = b4
  generalize x.q = a5
  generalize y.q = b5
  rw [show (10000 : Nat) = 9999 + 1 from rfl, run_equalIn_agg w 9999 33 _ _ hS hp]
  simp only [Program.fieldsOf, Try.underlying33]
  go_simp
  by_cases h0 : a0 = b0 <;> by_cases h1 : a1 = b1 <;> by_cases h2 : a2 = b2 <;> by_cases h3 : a3 = b3 <;> by_cases h4 : a4 = b4 <;> by_cases h5 : a5 = b5 <;> simp [h0, h1, h2, h3, h4, h5]
theorem act_eqIn (x y : Ac) (w : World) : (Op.equalIn 10000 67 (.agg #[.int .u8 x.k, .int .i64 x.c, .int .i64 x.p]) (.agg #[.int .u8 y.k, .int .i64 y.c, .int .i64 y.p])).run Try.prog w = .ok (decide (x = y)) w := by
  have u3 := Try.underlying3
  have a3 := Try.isAgg3
  have z3 := Try.sizeOf3
  have u5 := Try.underlying5
  have a5 := Try.isAgg5
  have z5 := Try.sizeOf5
  have hS : Try.prog.underlying 67 = some (.struct (Try.prog.fieldsOf 67)) := by kernel_rfl
  have hp : Try.prog.stoodInHeld 67 = false := by kernel_rfl
  have hx : decide (x = y) = (x.k == y.k && (x.c == y.c && x.p == y.p)) := by
    rw [Bool.eq_iff_iff]
    cases x
    cases y
    simp
  rw [hx]
  generalize x.k = a0
  generalize y.k = b0
  generalize x.c = a1
  generalize y.c = b1
  generalize x.p = a2
  generalize y.p = b2
  rw [show (10000 : Nat) = 9999 + 1 from rfl, run_equalIn_agg w 9999 67 _ _ hS hp]
  simp only [Program.fieldsOf, Try.underlying67]
  go_simp
  by_cases h0 : a0 = b0 <;> by_cases h1 : a1 = b1 <;> by_cases h2 : a2 = b2 <;> simp [h0, h1, h2]
theorem rec_eq (x y : Rc) (p q : Operand) (w : World) : (do eqGuard .eql 33 p q (rval x) (rval y); binOp .eql 33 (rval x) (rval y)).run Try.prog w = .ok (.bool (decide (x = y))) w := by
  show (do eqGuard .eql 33 p q (.agg #[.int .u8 x.k, .int .i64 x.i, .int .i64 x.r, .int .i64 x.p, .int .i64 x.c, .int .i64 x.q]) (.agg #[.int .u8 y.k, .int .i64 y.i, .int .i64 y.r, .int .i64 y.p, .int .i64 y.c, .int .i64 y.q]); binOp .eql 33 (.agg #[.int .u8 x.k, .int .i64 x.i, .int .i64 x.r, .int .i64 x.p, .int .i64 x.c, .int .i64 x.q]) (.agg #[.int .u8 y.k, .int .i64 y.i, .int .i64 y.r, .int .i64 y.p, .int .i64 y.c, .int .i64 y.q])).run Try.prog w = _
  rw [Sem.run_bind, run_eqGuard_agg w _ _ _ _ _ _ (by kernel_rfl)]
  show (binOp .eql 33 _ _).run Try.prog w = _
  rw [run_eql_struct, rec_eqIn]
  rfl
theorem rec_ne (x y : Rc) (p q : Operand) (w : World) : (do eqGuard .neq 33 p q (rval x) (rval y); binOp .neq 33 (rval x) (rval y)).run Try.prog w = .ok (.bool (!decide (x = y))) w := by
  show (do eqGuard .neq 33 p q (.agg #[.int .u8 x.k, .int .i64 x.i, .int .i64 x.r, .int .i64 x.p, .int .i64 x.c, .int .i64 x.q]) (.agg #[.int .u8 y.k, .int .i64 y.i, .int .i64 y.r, .int .i64 y.p, .int .i64 y.c, .int .i64 y.q]); binOp .neq 33 (.agg #[.int .u8 x.k, .int .i64 x.i, .int .i64 x.r, .int .i64 x.p, .int .i64 x.c, .int .i64 x.q]) (.agg #[.int .u8 y.k, .int .i64 y.i, .int .i64 y.r, .int .i64 y.p, .int .i64 y.c, .int .i64 y.q])).run Try.prog w = _
  rw [Sem.run_bind, run_eqGuard_agg w _ _ _ _ _ _ (by kernel_rfl)]
  show (binOp .neq 33 _ _).run Try.prog w = _
  rw [run_neq_struct, rec_eqIn]
  rfl
theorem act_eq (x y : Ac) (p q : Operand) (w : World) : (do eqGuard .eql 67 p q (aval x) (aval y); binOp .eql 67 (aval x) (aval y)).run Try.prog w = .ok (.bool (decide (x = y))) w := by
  show (do eqGuard .eql 67 p q (.agg #[.int .u8 x.k, .int .i64 x.c, .int .i64 x.p]) (.agg #[.int .u8 y.k, .int .i64 y.c, .int .i64 y.p]); binOp .eql 67 (.agg #[.int .u8 x.k, .int .i64 x.c, .int .i64 x.p]) (.agg #[.int .u8 y.k, .int .i64 y.c, .int .i64 y.p])).run Try.prog w = _
  rw [Sem.run_bind, run_eqGuard_agg w _ _ _ _ _ _ (by kernel_rfl)]
  show (binOp .eql 67 _ _).run Try.prog w = _
  rw [run_eql_struct, act_eqIn]
  rfl
end Go.Proofs
