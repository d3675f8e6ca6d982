/- TopFree: what is planned, taken, and given up. -/
import Derived.Test.YtmhjjhpgbafjpaaDoorPaFfree
set_option linter.unusedVariables false
set_option maxRecDepth 100000
namespace Go.Proofs
open Go Go.Eng
theorem st_eqIn (x y : Int × Int) (w : World) : (Op.equalIn 10000 38 (.agg #[.int .i64 x.1, .int .i64 x.2]) (.agg #[.int .i64 y.1, .int .i64 y.2])).run Tryd.prog w = .ok (decide (x = y)) w := by
  have u3 := Tryd.underlying3
  have a3 := Tryd.isAgg3
  have z3 := Tryd.sizeOf3
  have hS : Tryd.prog.underlying 38 = some (.struct (Tryd.prog.fieldsOf 38)) := by kernel_rfl
  have hp : Tryd.prog.stoodInHeld 38 = false := by kernel_rfl
  have hx : decide (x = y) = (x.1 == y.1 && x.2 == y.2) := by
    rw [Bool.eq_iff_iff]
    cases x
    cases y
    simp
  rw [hx]
  generalize x.1 = a0
  generalize y.1 = b0
  generalize x.2 = a1
  generalize y.2 = b1
  rw [show (10000 : Nat) = 9999 + 1 from rfl, run_equalIn_agg w 9999 38 _ _ hS hp]
  simp only [Program.fieldsOf, Tryd.underlying38]
  go_simp
  by_cases h0 : a0 = b0 <;> by_cases h1 : a1 = b1 <;> simp [h0, h1]
theorem st_ne (x y : Int × Int) (p q : Operand) (w : World) : (do eqGuard .neq 38 p q (.agg ⟨[.int .i64 x.1, .int .i64 x.2]⟩) (.agg ⟨[.int .i64 y.1, .int .i64 y.2]⟩); binOp .neq 38 (.agg ⟨[.int .i64 x.1, .int .i64 x.2]⟩) (.agg ⟨[.int .i64 y.1, .int .i64 y.2]⟩)).run Tryd.prog w = .ok (.bool (!decide (x = y))) w := by
  rw [Sem.run_bind, run_eqGuard_agg w _ _ _ _ _ _ (by kernel_rfl)]
  show (binOp .neq 38 _ _).run Tryd.prog w = _
  rw [run_neq_struct, st_eqIn]
  rfl
/-- What is taken for so many steps. -/
def tkF (l : List (Int × Int)) (c : Int) : List Wn := (l.filter fun x => decide (x.1 = c)).map fun x => (x.2, x.2 + 1)
theorem tkF_nil : tkF [] = fun _ => [] := rfl
theorem tkF_app (l : List (Int × Int)) (x : Int × Int) : updF (tkF l) x.1 (tkF l x.1 ++ [(x.2, x.2 + 1)]) = tkF (l ++ [x]) := by
  funext c
  by_cases e : c = x.1
  · subst e
    rw [updF_same]
    unfold tkF
    rw [List.filter_append, List.map_append]
    simp
  · rw [updF_other _ _ e]
    unfold tkF
    rw [List.filter_append, List.map_append]
    simp [Ne.symm e]
theorem tkF_head (l : List (Int × Int)) (x : Int × Int) : tkF (x :: l) x.1 = (x.2, x.2 + 1) :: tkF l x.1 := by simp [tkF]
theorem tkF_tail (l : List (Int × Int)) (x : Int × Int) : updF (tkF (x :: l)) x.1 (tkF l x.1) = tkF l := by
  funext c
  by_cases e : c = x.1
  · subst e
    rw [updF_same]
  · rw [updF_other _ _ e]
    simp [tkF, Ne.symm e]
theorem tkF_len (l : List (Int × Int)) (c : Int) : (tkF l c).length ≤ l.length := by
  unfold tkF
  rw [List.length_map]
  exact List.length_filter_le _ _
/-- Where the table lies: behind the arguments, beside the plans. -/
def okL (P1 P0 X : Nat) : Nat → Prop := fun k => (P1 ≤ k ∧ k < P0) ∨ X ≤ k
structure FS (W w : World) (F : Fl) (bb fb t P1 P0 X : Nat) (bv : List Value) (n : Nat) (tf : Int → List Wn) (was p : List (Int × Int)) (A Ap : Option Addr) : Prop where
  qb : Blk w bb 23 bv
  qf : Blk w fb 25 (fcell F)
  lt : bb < P1 ∧ fb < P1 ∧ P1 ≤ P0 ∧ P0 ≤ X
  tb : ∃ cof, Tab w (okL P1 P0 X) cof t n tf
  qw : Rd w (fun k => P0 ≤ k ∧ k < X) A (rws it2 was)
  qp : Rd w (fun k => P0 ≤ k ∧ k < X) Ap (rws it2 p)
  le : W.heap.size ≤ P1 ∧ X ≤ w.heap.size
  bel : Bel W.heap.size W w
section
variable {W w w' : World} {F : Fl} {bb fb t P1 P0 X : Nat} {bv : List Value} {n n' : Nat} {tf tf' : Int → List Wn} {was p : List (Int × Int)} {A Ap : Option Addr}
theorem FS.tab (I : FS W w F bb fb t P1 P0 X bv n tf was p A Ap) (f : Fr (okL P1 P0 X) w w') (q : ∃ cof, Tab w' (fun k => okL P1 P0 X k ∨ w.heap.size ≤ k) cof t n' tf') : FS W w' F bb fb t P1 P0 X bv n' tf' was p A Ap := by
  have hl := I.lt
  have hle := I.le
  obtain ⟨cof, T⟩ := q
  refine ⟨I.qb.fr f ?_, I.qf.fr f ?_, hl, ⟨cof, T.mono fun k _ h => h.elim id fun h => .inr (by omega)⟩, I.qw.fr f fun k _ h => ?_, I.qp.fr f fun k _ h => ?_, ⟨hle.1, Nat.le_trans hle.2 f.size⟩, I.bel.trans' (f.bel fun k h => ?_)⟩
  all_goals unfold okL at *
  all_goals omega
theorem FS.z (I : FS W w F bb fb t P1 P0 X bv n tf was p A Ap) (f : Fr none1 w w') : FS W w' F bb fb t P1 P0 X bv n tf was p A Ap := by
  obtain ⟨cof, T⟩ := I.tb
  exact I.tab (f.mono fun _ _ h => h.elim) ⟨cof, (T.fr f fun _ _ _ h => h).mono fun k _ h => .inl h⟩
/-- One step is taken. -/
theorem free_k5 (I : FS W w F bb fb t P1 P0 X bv n tf was p A Ap) (hn : n < 1000) {i : Nat} {x : Int × Int} (hx : p[i]? = some x) (hr : (0 ≤ x.1 ∧ x.1 < 1000) ∧ 0 ≤ x.2 ∧ x.2 ≤ 100000) (htf : (tf x.1).length < 4096 ∧ ∀ y ∈ tf x.1, y.2 ≤ x.2) (hpl : p.length ≤ 1000) {wl wc pl pc qc : Nat} {qa : Option Addr} {e : Int} {R : Value → World → Prop} {B1 : (Int) × Unit → World → Prop}
    (hB : ∀ w', FS W w' F bb fb t P1 P0 X bv (n + 1) (updF tf x.1 (tf x.1 ++ [(x.2, x.2 + 1)])) was p A Ap → B1 (((i + 1 : Nat) : Int), ()) w') :
    S3_k5 ⟨bb, 0, none⟩ ⟨fb, 0, none⟩ (some ⟨t, 0, none⟩) A wl wc e qa pl pc Ap p.length qc (p.length : Int) (i : Int) w R B1 := by
  have hi := (List.getElem?_eq_some_iff.1 hx).1
  obtain ⟨a, ha, c0, c1⟩ := row2 I.qp hx
  obtain ⟨p1, p2, p3, p4, b1, f1⟩ := cp2 w 38 (.int .i64 0) (.int .i64 0) (.int .i64 x.1) (.int .i64 x.2)
  refine ⟨a, ha, by omega, by omega, _, by rw [Int.toNat_natCast]; exact c0, _, by rw [Int.toNat_natCast]; exact c1, p1, p2, p3, p4, _, b1.cell 0, _, b1.cell 1, _, b1.cell 1, ?_⟩
  have I1 := I.z f1
  generalize World.setCell _ _ _ = w1 at I1 ⊢
  rw [IntWalk.i64_in (x.2 + 1) (by omega), IntWalk.i64_in ((i : Int) + 1) (by omega)]
  obtain ⟨cof, T⟩ := I1.tb
  refine (wtake_ok T (cell := x.1) (i64r_of (by omega)) htf.1 (by omega) (x := (x.2, x.2 + 1)) (by dsimp only; omega) htf.2).use ?_
  rintro v w2 ⟨rfl, cof2, T2, f2⟩
  exact ⟨_, rfl, cF rfl (hB w2 (I1.tab f2 ⟨cof2, T2⟩))⟩
/-- One step is given up. -/
theorem free_k8 (I : FS W w F bb fb t P1 P0 X bv n tf was p A Ap) (hn : n < 1000) {i : Nat} {x : Int × Int} (hx : p[i]? = some x) (hr : (0 ≤ x.1 ∧ x.1 < 1000) ∧ 0 ≤ x.2 ∧ x.2 ≤ 100000) {rest : List Wn} (htf : tf x.1 = (x.2, x.2 + 1) :: rest) (htl : (tf x.1).length ≤ 1000) (hpl : p.length ≤ 1000) {wl wc qc : Nat} {e : Int} {R : Value → World → Prop} {B1 : (Int) × Unit → World → Prop}
    (hB : ∀ w', FS W w' F bb fb t P1 P0 X bv (n + 1) (updF tf x.1 rest) was p A Ap → B1 (((i + 1 : Nat) : Int), ()) w') :
    S3_k8 ⟨bb, 0, none⟩ ⟨fb, 0, none⟩ (some ⟨t, 0, none⟩) A wl wc e Ap p.length qc (p.length : Int) (i : Int) w R B1 := by
  have hi := (List.getElem?_eq_some_iff.1 hx).1
  obtain ⟨a, ha, c0, c1⟩ := row2 I.qp hx
  obtain ⟨p1, p2, p3, p4, b1, f1⟩ := cp2 w 38 (.int .i64 0) (.int .i64 0) (.int .i64 x.1) (.int .i64 x.2)
  refine ⟨a, ha, by omega, by omega, _, by rw [Int.toNat_natCast]; exact c0, _, by rw [Int.toNat_natCast]; exact c1, p1, p2, p3, p4, _, b1.cell 0, _, b1.cell 1, _, b1.cell 1, ?_⟩
  have I1 := I.z f1
  generalize World.setCell _ _ _ = w1 at I1 ⊢
  rw [IntWalk.i64_in (x.2 + 1) (by omega), IntWalk.i64_in ((i : Int) + 1) (by omega)]
  obtain ⟨cof, T⟩ := I1.tb
  refine (wdrop_ok T (cell := x.1) (i64r_of (by omega)) (by omega) (x := (x.2, x.2 + 1)) htf (by omega)).use ?_
  rintro v w2 ⟨rfl, cof2, T2, f2⟩
  exact ⟨_, rfl, cF rfl (hB w2 (I1.tab f2 ⟨cof2, T2⟩))⟩
/-- The third plan is as the first one. -/
theorem free_k9 (hF : FOk F) {bf bs bt : Int} (I : FS W w F bb fb t P1 P0 X [.int .i64 bf, .int .i64 bt, .int .i64 bs] n (fun _ => []) was p A Ap) (hst : 0 ≤ bs ∧ bs ≤ 1000) (hw : was = (planV F bf bs bt).1) {wc : Nat} :
    S3_k9 ⟨bb, 0, none⟩ ⟨fb, 0, none⟩ (some ⟨t, 0, none⟩) A was.length wc (planV F bf bs bt).2 w (fun v w' => v = .bool true ∧ Fr none1 W w') := by
  obtain ⟨cof, T⟩ := I.tb
  have hlen := (plan_in F bf bs bt hst.2).1
  refine ⟨_, I.qf.cell 0, _, by rw [add_g]; exact I.qf.cell 1, _, by rw [add_g]; exact I.qf.cell 2, _, I.qb.cell 0, _, by rw [add_g]; exact I.qb.cell 2, _, by rw [add_g]; exact I.qb.cell 1, ?_⟩
  refine (plan_ok hF T (fun _ => rfl) hst bf bt).use ?_
  rintro v w1 ⟨A1, c1, rfl, o1, f1⟩
  have I1 := I.z f1
  rw [← hw] at o1 ⊢
  rw [← hw] at hlen
  have r1 := o1.rd
  refine ⟨_, _, _, _, rfl, cF (by simp) ?_⟩
  refine cF (by simp) ?_
  refine ⟨fun s' w' => ∃ i : Nat, s' = ((i : Int), ()) ∧ i ≤ was.length ∧ Fr none1 w1 w', fun s' _ => was.length - s'.1.toNat, ⟨0, rfl, Nat.zero_le _, Fr.refl _ _⟩, ?_⟩
  rintro J s' w2 ⟨i, rfl, hi, f2⟩
  dsimp only
  refine cD (fun hlt => ?_) (fun hlt => ?_)
  · have hi' : i < was.length := by omega
    have hx : was[i]? = some was[i] := List.getElem?_eq_getElem hi'
    generalize was[i] = x at hx
    unfold S3_k13
    have f3 := f2.trans' (Fr.drew w2)
    generalize w2.drew = w3 at f3 ⊢
    obtain ⟨a, ha, c0, c1⟩ := row2 ((I1.z f3).qw) hx
    obtain ⟨b, hb, d0, d1⟩ := row2 (r1.fr f3 fun _ _ _ h => h) hx
    refine ⟨a, ha, by omega, by omega, _, by rw [Int.toNat_natCast]; exact c0, _, by rw [Int.toNat_natCast]; exact c1, b, hb, by omega, by omega, _, by rw [Int.toNat_natCast]; exact d0, _, by rw [Int.toNat_natCast]; exact d1, _, _, st_ne x x _ _ _, cF (by simp) ?_⟩
    rw [IntWalk.i64_in _ (by omega)]
    exact ⟨⟨i + 1, rfl, by omega, f3⟩, by dsimp only; omega⟩
  · exact ⟨rfl, (I1.z f2).bel.top⟩
theorem free_k6 (hF : FOk F) {bf bs bt : Int} (I : FS W w F bb fb t P1 P0 X [.int .i64 bf, .int .i64 bt, .int .i64 bs] n (tkF p) was p A Ap) (hst : 0 ≤ bs ∧ bs ≤ 1000) (hw : was = (planV F bf bs bt).1) (hn : n ≤ 100) (hp : p.length ≤ 40 ∧ ∀ x ∈ p, (0 ≤ x.1 ∧ x.1 < 1000) ∧ 0 ≤ x.2 ∧ x.2 ≤ 100000) {wc pc : Nat} :
    S3_k6 ⟨bb, 0, none⟩ ⟨fb, 0, none⟩ (some ⟨t, 0, none⟩) A was.length wc (planV F bf bs bt).2 Ap p.length pc w (fun v w' => v = .bool true ∧ Fr none1 W w') := by
  refine ⟨fun s' w' => ∃ i : Nat, s' = ((i : Int), ()) ∧ i ≤ p.length ∧ FS W w' F bb fb t P1 P0 X [.int .i64 bf, .int .i64 bt, .int .i64 bs] (n + i) (tkF (p.drop i)) was p A Ap, fun s' _ => p.length - s'.1.toNat, ⟨0, rfl, Nat.zero_le _, I⟩, ?_⟩
  rintro J s' w1 ⟨i, rfl, hi, I1⟩
  dsimp only
  refine cD (fun hlt => ?_) (fun hlt => ?_)
  · have hi' : i < p.length := by omega
    have hx : p[i]? = some p[i] := List.getElem?_eq_getElem hi'
    have hd : p.drop i = p[i] :: p.drop (i + 1) := List.drop_eq_getElem_cons hi'
    have hm := hp.2 _ (List.getElem_mem hi')
    generalize p[i] = x at hx hd hm
    have htl : (tkF (p.drop i) x.1).length ≤ 1000 := by have := tkF_len (p.drop i) x.1; rw [List.length_drop] at this; omega
    refine free_k8 I1 (by omega) hx hm (rest := tkF (p.drop (i + 1)) x.1) (by rw [hd]; exact tkF_head _ _) htl (by omega) fun w2 I2 => ?_
    rw [hd, tkF_tail] at I2
    exact ⟨⟨i + 1, rfl, by omega, I2⟩, by dsimp only; omega⟩
  · have e : i = p.length := by omega
    subst e
    rw [List.drop_length, tkF_nil] at I1
    exact free_k9 hF I1 hst hw
end
end Go.Proofs
