/- Queues that age: the same lists; who is dropped. -/
import Derived.Test.YtkighcolplcnbaaAgG12
set_option linter.unusedVariables false
namespace Go.Proofs
open Go Go.Eng
theorem wt_eqIn (x y : Wt) (w : World) : (Op.equalIn 10000 40 (.agg #[.int .i64 x.id, .int .i64 x.pr, .int .i64 x.bp]) (.agg #[.int .i64 y.id, .int .i64 y.pr, .int .i64 y.bp])).run Try.prog w = .ok (decide (x = y)) w := by
  have u3 := Try.underlying3
  have a3 := Try.isAgg3
  have z3 := Try.sizeOf3
  have hS : Try.prog.underlying 40 = some (.struct (Try.prog.fieldsOf 40)) := by kernel_rfl
  have hp : Try.prog.stoodInHeld 40 = false := by kernel_rfl
  have hx : decide (x = y) = (x.id == y.id && (x.pr == y.pr && x.bp == y.bp)) := by
    rw [Bool.eq_iff_iff]
    cases x
    cases y
    simp
  rw [hx]
  generalize x.id = a0
  generalize y.id = b0
  generalize x.pr = a1
  generalize y.pr = b1
  generalize x.bp = a2
  generalize y.bp = b2
  rw [show (10000 : Nat) = 9999 + 1 from rfl, run_equalIn_agg w 9999 40 _ _ hS hp]
  simp only [Program.fieldsOf, Try.underlying40]
  go_simp
  by_cases h0 : a0 = b0 <;> by_cases h1 : a1 = b1 <;> by_cases h2 : a2 = b2 <;> simp [h0, h1, h2]
theorem wt_ne (x y : Wt) (p q : Operand) (w : World) : (do eqGuard .neq 40 p q (wval x) (wval y); binOp .neq 40 (wval x) (wval y)).run Try.prog w = .ok (.bool (!decide (x = y))) w := by
  show (do eqGuard .neq 40 p q (.agg #[.int .i64 x.id, .int .i64 x.pr, .int .i64 x.bp]) (.agg #[.int .i64 y.id, .int .i64 y.pr, .int .i64 y.bp]); binOp .neq 40 (.agg #[.int .i64 x.id, .int .i64 x.pr, .int .i64 x.bp]) (.agg #[.int .i64 y.id, .int .i64 y.pr, .int .i64 y.bp])).run Try.prog w = _
  rw [Sem.run_bind, run_eqGuard_agg w _ _ _ _ _ _ (by kernel_rfl)]
  show (binOp .neq 40 _ _).run Try.prog w = _
  rw [run_neq_struct, wt_eqIn]
  rfl
theorem wsame_ok {w : World} {ok1 ok2 : Nat → Prop} {A1 A2 : Option Addr} {c1 c2 : Nat} {ws vs : List Wt} (h1 : Rd w ok1 A1 (rws wcell ws)) (h2 : Rd w ok2 A2 (rws wcell vs)) (hl : ws.length ≤ 1000000) :
    Ret Try.prog 17 [.slice A1 ws.length c1, .slice A2 vs.length c2] w fun v w' => v = .bool (decide (ws = vs)) ∧ Fr none1 w w' := by
  apply S17_calls
  refine cN (fun hne => ?_) (fun heq => ?_)
  · rw [decide_eq_false fun e => hne (by rw [e])]
    exact ⟨rfl, Fr.refl _ _⟩
  · have hle : ws.length = vs.length := by omega
    refine ⟨fun s w' => ∃ i : Nat, s.1 = (i : Int) ∧ i ≤ ws.length ∧ ws.take i = vs.take i ∧ Fr none1 w w', fun s _ => ws.length - s.1.toNat, ⟨0, rfl, Nat.zero_le _, rfl, Fr.refl _ _⟩, ?_⟩
    rintro J ⟨i', ⟨⟩⟩ w1 ⟨i, hi, hil, heq2, f1⟩
    dsimp only at hi ⊢
    subst hi
    refine cD (fun hlt => ?_) (fun hlt => ?_)
    · have hlt' : i < ws.length := by have : (i : Int) < (ws.length : Int) := hlt; omega
      have hx : ws[i]? = some ws[i] := List.getElem?_eq_getElem hlt'
      have hy : vs[i]? = some vs[i] := List.getElem?_eq_getElem (by omega)
      have sx : ws.take (i + 1) = ws.take i ++ [ws[i]] := by rw [List.take_add_one, hx]; rfl
      have sy : vs.take (i + 1) = vs.take i ++ [vs[i]] := by rw [List.take_add_one, hy]; rfl
      have f2 : Fr none1 w w1.drew := f1.trans' (Fr.drew w1)
      obtain ⟨t1, ht1, _, c0, c1', c2'⟩ := own_wt (h1.fr f2 fun _ _ _ h => h) hx
      obtain ⟨t2, ht2, _, d0, d1, d2⟩ := own_wt (h2.fr f2 fun _ _ _ h => h) hy
      generalize ws[i] = x at *
      generalize vs[i] = y at *
      refine ⟨t1, ht1, by omega, by omega, _, by rw [Int.toNat_natCast]; exact c0, _, by rw [Int.toNat_natCast]; exact c1', _, by rw [Int.toNat_natCast]; exact c2', t2, ht2, by omega, by omega, _, by rw [Int.toNat_natCast]; exact d0, _, by rw [Int.toNat_natCast]; exact d1, _, by rw [Int.toNat_natCast]; exact d2, _, _, wt_ne x y _ _ w1.drew, ?_⟩
      by_cases he : x = y
      · rw [decide_eq_true he]
        refine cF rfl ?_
        rw [IntWalk.i64_in _ (by omega)]
        exact ⟨⟨i + 1, rfl, by omega, by rw [sx, sy, heq2, he], f2⟩, by dsimp only; omega⟩
      · rw [decide_eq_false he]
        refine cT rfl ?_
        rw [decide_eq_false fun e => he (by rw [e, hy] at hx; exact (Option.some.inj hx).symm)]
        exact ⟨rfl, f2⟩
    · have hge : i = ws.length := by have : ¬ (i : Int) < (ws.length : Int) := hlt; omega
      rw [hge, List.take_length] at heq2
      rw [hle, List.take_length] at heq2
      rw [decide_eq_true heq2]
      exact ⟨rfl, f1⟩
def kd (x : Act) : Int := Int.tmod x.1 3
def doQ (Q : Que) (x : Act) : Que := if kd x = 0 then adQ Q x.2 else if kd x = 1 then tkQ Q else drQ Q x.2
theorem doQ_n (Q : Que) (x : Act) : (doQ Q x).n ≤ Q.n + 1 ∧ (doQ Q x).b ≤ Q.b + 1 := by
  unfold doQ
  split
  · have := adQ_n Q x.2; omega
  · split
    · have := tkQ_n Q; omega
    · have := drQ_n Q x.2; omega
theorem act_at {w w' : World} {B : Nat} {A : Option Addr} {al : List Act} (h : RowAt B 2 (ActQ w) A al) (g : Bel B w w') (hB : B ≤ w.heap.size) {i : Nat} {x : Act} (hx : al[i]? = some x) : ∃ a, A = some a ∧ w'.cell? (a.add (i * 2)) = some (.int .u8 x.1) ∧ w'.cell? ((a.add (i * 2)).add 1) = some (.int .i64 x.2) ∧ 0 ≤ x.1 ∧ x.1 < 256 := by
  obtain ⟨a, ha, hb, hq, h0, h1⟩ := h i x hx
  have hc : ∀ j, w'.cell? ((a.add (i * 2)).add j) = w.cell? ((a.add (i * 2)).add j) := fun j => g.cell (by rw [add_block, add_block]; omega) (by rw [add_block, add_block]; simp only [from1]; omega)
  have c0 := hq 0 _ rfl
  rw [← hc 0, add_zero'] at c0
  have c1 := hq 1 _ rfl
  rw [← hc 1] at c1
  exact ⟨a, ha, c0, c1, h0, h1⟩
end Go.Proofs
