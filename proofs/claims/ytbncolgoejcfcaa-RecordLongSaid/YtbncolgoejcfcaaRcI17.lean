/- Whether records, and acts, are the same; copies of them. -/
import Derived.Test.YtbncolgoejcfcaaRcH17
set_option linter.unusedVariables false
namespace Go.Proofs
open Go Go.Eng
theorem rec_eqIn (x y : Rc) (w : World) : (Op.equalIn 10000 23 (.agg #[.int .u8 x.k, .int .i64 x.i, .int .i64 x.r, .int .i64 x.p, .int .i64 x.c, .int .i64 x.q]) (.agg #[.int .u8 y.k, .int .i64 y.i, .int .i64 y.r, .int .i64 y.p, .int .i64 y.c, .int .i64 y.q])).run Try.prog w = .ok (decide (x = y)) w := by
  have u3 := Try.underlying3
  have a3 := Try.isAgg3
  have z3 := Try.sizeOf3
  have u5 := Try.underlying5
  have a5 := Try.isAgg5
  have z5 := Try.sizeOf5
  have hS : Try.prog.underlying 23 = some (.struct (Try.prog.fieldsOf 23)) := by kernel_rfl
  have hp : Try.prog.stoodInHeld 23 = false := by kernel_rfl
  have hx : decide (x = y) = (x.k == y.k && (x.i == y.i && (x.r == y.r && (x.p == y.p && (x.c == y.c && x.q == y.q))))) := by
    rw [Bool.eq_iff_iff]
    cases x
    cases y
    simp
  rw [hx]
  generalize x.k = a0
  generalize y.k = b0
  generalize x.i = a1
  generalize y.i = b1
  generalize x.r = a2
  generalize y.r = b2
  generalize x.p = a3
  generalize y.p = b3
  generalize x.c = a4
  generalize y.c = b4
  generalize x.q = a5
  generalize y.q = b5
  rw [show (10000 : Nat) = 9999 + 1 from rfl, run_equalIn_agg w 9999 23 _ _ hS hp]
  simp only [Program.fieldsOf, Try.underlying23]
  go_simp
  by_cases h0 : a0 = b0 <;> by_cases h1 : a1 = b1 <;> by_cases h2 : a2 = b2 <;> by_cases h3 : a3 = b3 <;> by_cases h4 : a4 = b4 <;> by_cases h5 : a5 = b5 <;> simp [h0, h1, h2, h3, h4, h5]
theorem act_eqIn (x y : Ac) (w : World) : (Op.equalIn 10000 31 (.agg #[.int .u8 x.k, .int .i64 x.c, .int .i64 x.p]) (.agg #[.int .u8 y.k, .int .i64 y.c, .int .i64 y.p])).run Try.prog w = .ok (decide (x = y)) w := by
  have u3 := Try.underlying3
  have a3 := Try.isAgg3
  have z3 := Try.sizeOf3
  have u5 := Try.underlying5
  have a5 := Try.isAgg5
  have z5 := Try.sizeOf5
  have hS : Try.prog.underlying 31 = some (.struct (Try.prog.fieldsOf 31)) := by kernel_rfl
  have hp : Try.prog.stoodInHeld 31 = false := by kernel_rfl
  have hx : decide (x = y) = (x.k == y.k && (x.c == y.c && x.p == y.p)) := by
    rw [Bool.eq_iff_iff]
    cases x
    cases y
    simp
  rw [hx]
  generalize x.k = a0
  generalize y.k = b0
  generalize x.c = a1
  generalize y.c = b1
  generalize x.p = a2
  generalize y.p = b2
  rw [show (10000 : Nat) = 9999 + 1 from rfl, run_equalIn_agg w 9999 31 _ _ hS hp]
  simp only [Program.fieldsOf, Try.underlying31]
  go_simp
  by_cases h0 : a0 = b0 <;> by_cases h1 : a1 = b1 <;> by_cases h2 : a2 = b2 <;> simp [h0, h1, h2]
theorem rec_eq (x y : Rc) (p q : Operand) (w : World) : (do eqGuard .eql 23 p q (rval x) (rval y); binOp .eql 23 (rval x) (rval y)).run Try.prog w = .ok (.bool (decide (x = y))) w := by
  show (do eqGuard .eql 23 p q (.agg #[.int .u8 x.k, .int .i64 x.i, .int .i64 x.r, .int .i64 x.p, .int .i64 x.c, .int .i64 x.q]) (.agg #[.int .u8 y.k, .int .i64 y.i, .int .i64 y.r, .int .i64 y.p, .int .i64 y.c, .int .i64 y.q]); binOp .eql 23 (.agg #[.int .u8 x.k, .int .i64 x.i, .int .i64 x.r, .int .i64 x.p, .int .i64 x.c, .int .i64 x.q]) (.agg #[.int .u8 y.k, .int .i64 y.i, .int .i64 y.r, .int .i64 y.p, .int .i64 y.c, .int .i64 y.q])).run Try.prog w = _
  rw [Sem.run_bind, run_eqGuard_agg w _ _ _ _ _ _ (by kernel_rfl)]
  show (binOp .eql 23 _ _).run Try.prog w = _
  rw [run_eql_struct, rec_eqIn]
  rfl
theorem rec_ne (x y : Rc) (p q : Operand) (w : World) : (do eqGuard .neq 23 p q (rval x) (rval y); binOp .neq 23 (rval x) (rval y)).run Try.prog w = .ok (.bool (!decide (x = y))) w := by
  show (do eqGuard .neq 23 p q (.agg #[.int .u8 x.k, .int .i64 x.i, .int .i64 x.r, .int .i64 x.p, .int .i64 x.c, .int .i64 x.q]) (.agg #[.int .u8 y.k, .int .i64 y.i, .int .i64 y.r, .int .i64 y.p, .int .i64 y.c, .int .i64 y.q]); binOp .neq 23 (.agg #[.int .u8 x.k, .int .i64 x.i, .int .i64 x.r, .int .i64 x.p, .int .i64 x.c, .int .i64 x.q]) (.agg #[.int .u8 y.k, .int .i64 y.i, .int .i64 y.r, .int .i64 y.p, .int .i64 y.c, .int .i64 y.q])).run Try.prog w = _
  rw [Sem.run_bind, run_eqGuard_agg w _ _ _ _ _ _ (by kernel_rfl)]
  show (binOp .neq 23 _ _).run Try.prog w = _
  rw [run_neq_struct, rec_eqIn]
  rfl
theorem act_eq (x y : Ac) (p q : Operand) (w : World) : (do eqGuard .eql 31 p q (aval x) (aval y); binOp .eql 31 (aval x) (aval y)).run Try.prog w = .ok (.bool (decide (x = y))) w := by
  show (do eqGuard .eql 31 p q (.agg #[.int .u8 x.k, .int .i64 x.c, .int .i64 x.p]) (.agg #[.int .u8 y.k, .int .i64 y.c, .int .i64 y.p]); binOp .eql 31 (.agg #[.int .u8 x.k, .int .i64 x.c, .int .i64 x.p]) (.agg #[.int .u8 y.k, .int .i64 y.c, .int .i64 y.p])).run Try.prog w = _
  rw [Sem.run_bind, run_eqGuard_agg w _ _ _ _ _ _ (by kernel_rfl)]
  show (binOp .eql 31 _ _).run Try.prog w = _
  rw [run_eql_struct, act_eqIn]
  rfl
end Go.Proofs
