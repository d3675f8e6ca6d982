/- Which records may be, and their bytes: contracts of the program and of the reference. -/
import Derived.Test.YtmhjjhpgbafjpaaRcPtop
set_option linter.unusedVariables false
namespace Go.Eng
open Go
/-- Six cells of a block, written. -/
theorem Blk.wr6 {w : World} {b : Nat} {t : TypeId} {x0 x1 x2 x3 x4 x5 : Value} (h : Blk w b t [x0, x1, x2, x3, x4, x5]) (y0 y1 y2 y3 y4 y5 : Value) :
    ((∃ u, w.cell? ⟨b, 0, none⟩ = some u) ∧ w.frozen? ⟨b, 0, none⟩ = false) ∧
    ((∃ u, (w.setCell ⟨b, 0, none⟩ y0).cell? ⟨b, 1, none⟩ = some u) ∧ (w.setCell ⟨b, 0, none⟩ y0).frozen? ⟨b, 1, none⟩ = false) ∧
    ((∃ u, ((w.setCell ⟨b, 0, none⟩ y0).setCell ⟨b, 1, none⟩ y1).cell? ⟨b, 2, none⟩ = some u) ∧ ((w.setCell ⟨b, 0, none⟩ y0).setCell ⟨b, 1, none⟩ y1).frozen? ⟨b, 2, none⟩ = false) ∧
    ((∃ u, (((w.setCell ⟨b, 0, none⟩ y0).setCell ⟨b, 1, none⟩ y1).setCell ⟨b, 2, none⟩ y2).cell? ⟨b, 3, none⟩ = some u) ∧ (((w.setCell ⟨b, 0, none⟩ y0).setCell ⟨b, 1, none⟩ y1).setCell ⟨b, 2, none⟩ y2).frozen? ⟨b, 3, none⟩ = false) ∧
    ((∃ u, ((((w.setCell ⟨b, 0, none⟩ y0).setCell ⟨b, 1, none⟩ y1).setCell ⟨b, 2, none⟩ y2).setCell ⟨b, 3, none⟩ y3).cell? ⟨b, 4, none⟩ = some u) ∧ ((((w.setCell ⟨b, 0, none⟩ y0).setCell ⟨b, 1, none⟩ y1).setCell ⟨b, 2, none⟩ y2).setCell ⟨b, 3, none⟩ y3).frozen? ⟨b, 4, none⟩ = false) ∧
    ((∃ u, (((((w.setCell ⟨b, 0, none⟩ y0).setCell ⟨b, 1, none⟩ y1).setCell ⟨b, 2, none⟩ y2).setCell ⟨b, 3, none⟩ y3).setCell ⟨b, 4, none⟩ y4).cell? ⟨b, 5, none⟩ = some u) ∧ (((((w.setCell ⟨b, 0, none⟩ y0).setCell ⟨b, 1, none⟩ y1).setCell ⟨b, 2, none⟩ y2).setCell ⟨b, 3, none⟩ y3).setCell ⟨b, 4, none⟩ y4).frozen? ⟨b, 5, none⟩ = false) ∧
    Blk ((((((w.setCell ⟨b, 0, none⟩ y0).setCell ⟨b, 1, none⟩ y1).setCell ⟨b, 2, none⟩ y2).setCell ⟨b, 3, none⟩ y3).setCell ⟨b, 4, none⟩ y4).setCell ⟨b, 5, none⟩ y5) b t [y0, y1, y2, y3, y4, y5] ∧
    Fr (fun k => k = b) w ((((((w.setCell ⟨b, 0, none⟩ y0).setCell ⟨b, 1, none⟩ y1).setCell ⟨b, 2, none⟩ y2).setCell ⟨b, 3, none⟩ y3).setCell ⟨b, 4, none⟩ y4).setCell ⟨b, 5, none⟩ y5) := by
  have b1 := h.set 0 y0
  have b2 := b1.set 1 y1
  have b3 := b2.set 2 y2
  have b4 := b3.set 3 y3
  have b5 := b4.set 4 y4
  have b6 := b5.set 5 y5
  have f : ∀ (w : World) j u, Fr (fun k => k = b) w (w.setCell ⟨b, j, none⟩ u) := fun w j u => Fr.setCell (F := fun k => k = b) w rfl u
  exact ⟨⟨h.has 0 (by simp), h.free 0⟩, ⟨b1.has 1 (by simp), b1.free 1⟩, ⟨b2.has 2 (by simp), b2.free 2⟩, ⟨b3.has 3 (by simp), b3.free 3⟩, ⟨b4.has 4 (by simp), b4.free 4⟩, ⟨b5.has 5 (by simp), b5.free 5⟩, b6, ((((((f _ _ _).trans' (f _ _ _)).trans' (f _ _ _)).trans' (f _ _ _)).trans' (f _ _ _)).trans' (f _ _ _))⟩
/-- One cell of a block, written. -/
theorem Blk.wr1 {w : World} {b : Nat} {t : TypeId} {vs : List Value} (h : Blk w b t vs) (j : Nat) (hj : j < vs.length) (y : Value) : ((∃ u, w.cell? ⟨b, j, none⟩ = some u) ∧ w.frozen? ⟨b, j, none⟩ = false) ∧ Blk (w.setCell ⟨b, j, none⟩ y) b t (vs.set j y) ∧ Fr (fun k => k = b) w (w.setCell ⟨b, j, none⟩ y) :=
  ⟨⟨h.has j hj, h.free j⟩, h.set j y, Fr.setCell (F := fun k => k = b) w rfl y⟩
end Go.Eng
namespace Go.Proofs
open Go Go.Eng
def rcell (x : Rc) : List Value := [.int .u8 x.k, .int .i64 x.i, .int .i64 x.r, .int .i64 x.p, .int .i64 x.c, .int .i64 x.q]
def rval (x : Rc) : Value := .agg ⟨rcell x⟩
abbrev RcB (w : World) (b : Nat) (x : Rc) : Prop := Blk w b 33 (rcell x)
section
variable {w : World} {b : Nat} {x : Rc}
theorem RcB.c0 (h : RcB w b x) : w.cell? ⟨b, 0, none⟩ = some (.int .u8 x.k) := (Blk.cell h 0).trans rfl
theorem RcB.c1 (h : RcB w b x) : w.cell? ⟨b, 1, none⟩ = some (.int .i64 x.i) := (Blk.cell h 1).trans rfl
theorem RcB.c2 (h : RcB w b x) : w.cell? ⟨b, 2, none⟩ = some (.int .i64 x.r) := (Blk.cell h 2).trans rfl
theorem RcB.c3 (h : RcB w b x) : w.cell? ⟨b, 3, none⟩ = some (.int .i64 x.p) := (Blk.cell h 3).trans rfl
theorem RcB.c4 (h : RcB w b x) : w.cell? ⟨b, 4, none⟩ = some (.int .i64 x.c) := (Blk.cell h 4).trans rfl
theorem RcB.c5 (h : RcB w b x) : w.cell? ⟨b, 5, none⟩ = some (.int .i64 x.q) := (Blk.cell h 5).trans rfl
end
theorem right_iff (x : Rc) : right x ↔ (1 ≤ x.k ∧ x.k ≤ 5) ∧ ((x.k = 2 ∨ x.k = 3) ∨ x.i = 0) ∧ ((3 ≤ x.k ∧ x.k ≤ 5) ∨ x.r = 0) ∧ (x.k = 1 ∨ (x.p = 0 ∧ x.c = 0 ∧ x.q = 0)) ∧ (0 ≤ x.i ∧ x.i ≤ 1073741824) ∧ (0 ≤ x.r ∧ x.r < 8) ∧ (0 ≤ x.p ∧ x.p < 64) ∧ (0 ≤ x.c ∧ x.c < 256) ∧ (0 ≤ x.q ∧ x.q ≤ 5) := by
  unfold right hasI hasR hasM
  simp only [decide_eq_true_eq]
def fld (k : Int) : Int := if k = 1 then 4 else if k = 2 then 1 else if k = 3 then 3 else if k = 4 ∨ k = 5 then 2 else 0
theorem fldI (k : Int) : decide (bitsI .and .i64 (fld k) 1 = 0) = !hasI k := by
  unfold fld hasI
  by_cases h1 : k = 1
  · subst h1; decide +kernel
  by_cases h2 : k = 2
  · subst h2; decide +kernel
  by_cases h3 : k = 3
  · subst h3; decide +kernel
  by_cases h4 : k = 4 ∨ k = 5
  · rw [if_neg h1, if_neg h2, if_neg h3, if_pos h4, decide_eq_false (by omega : ¬ (k = 2 ∨ k = 3))]; decide +kernel
  · rw [if_neg h1, if_neg h2, if_neg h3, if_neg h4, decide_eq_false (by omega : ¬ (k = 2 ∨ k = 3))]; decide +kernel
theorem fldR (k : Int) : decide (bitsI .and .i64 (fld k) 2 = 0) = !hasR k := by
  unfold fld hasR
  by_cases h1 : k = 1
  · subst h1; decide +kernel
  by_cases h2 : k = 2
  · subst h2; decide +kernel
  by_cases h3 : k = 3
  · subst h3; decide +kernel
  by_cases h4 : k = 4 ∨ k = 5
  · rw [if_neg h1, if_neg h2, if_neg h3, if_pos h4, decide_eq_true (by omega : 3 ≤ k ∧ k ≤ 5)]; decide +kernel
  · rw [if_neg h1, if_neg h2, if_neg h3, if_neg h4, decide_eq_false (by omega : ¬ (3 ≤ k ∧ k ≤ 5))]; decide +kernel
theorem fldM (k : Int) : decide (bitsI .and .i64 (fld k) 4 = 0) = !hasM k := by
  unfold fld hasM
  by_cases h1 : k = 1
  · subst h1; decide +kernel
  by_cases h2 : k = 2
  · subst h2; decide +kernel
  by_cases h3 : k = 3
  · subst h3; decide +kernel
  by_cases h4 : k = 4 ∨ k = 5
  · rw [if_neg h1, if_neg h2, if_neg h3, if_pos h4, decide_eq_false h1]; decide +kernel
  · rw [if_neg h1, if_neg h2, if_neg h3, if_neg h4, decide_eq_false h1]; decide +kernel
theorem fields_ok (k : Int) (w : World) : Ret Try.prog 42 [.int .u8 k] w fun v w' => v = .int .i64 (fld k) ∧ w' = w := by
  apply S42_calls
  unfold fld
  refine cD (fun h => ?_) (fun h1 => cD (fun h => ?_) (fun h2 => cD (fun h => ?_) (fun h3 => cD (fun h => ?_) (fun h4 => cD (fun h => ?_) (fun h5 => ?_)))))
  · rw [if_pos h]; exact ⟨rfl, rfl⟩
  · rw [if_neg h1, if_pos h]; exact ⟨rfl, rfl⟩
  · rw [if_neg h1, if_neg h2, if_pos h]; exact ⟨rfl, rfl⟩
  · rw [if_neg h1, if_neg h2, if_neg h3, if_pos (.inl h)]
    exact cT (decide_eq_true h) ⟨rfl, rfl⟩
  · rw [if_neg h1, if_neg h2, if_neg h3, if_pos (.inr h)]
    exact ⟨rfl, rfl⟩
  · rw [if_neg h1, if_neg h2, if_neg h3, if_neg (by omega)]
    exact ⟨rfl, rfl⟩
theorem fits_ok (n : Int) {m : Nat} (hm : m ≤ 8) (w : World) : Ret Try.prog 47 [.int .i64 n, .int .i64 (m : Int)] w fun v w' => v = .bool (decide (0 ≤ n ∧ n < 2 ^ m)) ∧ w' = w := by
  apply S47_calls
  have e : IntKind.i64.wrap (1 * 2 ^ (min (Int.toNat (m : Int)) (IntKind.i64.bits))) = 2 ^ m := by
    rw [Int.toNat_natCast, Nat.min_eq_left (by simp [IntKind.bits]; omega), Int.one_mul]
    have h1 : (2 : Nat) ^ m ≤ 2 ^ 8 := Nat.pow_le_pow_right (by decide) hm
    have h2 : (2 : Int) ^ m = ((2 ^ m : Nat) : Int) := by simp
    generalize (2 : Nat) ^ m = q at h1 h2
    rw [h2, IntWalk.i64_in _ (by omega)]
  refine cD (fun h => ⟨by omega, ?_, rfl⟩) (fun h => ⟨?_, rfl⟩)
  · rw [e]; congr 1; rw [decide_eq_decide]; exact ⟨fun h2 => ⟨h, h2⟩, fun h2 => h2.2⟩
  · rw [decide_eq_false]; exact fun h2 => h h2.1
theorem right_ok (x : Rc) (w : World) : Ret Try.prog 9 [rval x] w fun v w' => v = .bool (decide (right x)) ∧ Fr none1 w w' := by
  apply S9_calls
  have b0 : RcB (w.alloc (.cells ⟨rcell x⟩ 33)) w.heap.size x := Blk.new w 33 (rcell x)
  have f0 : Fr none1 w (w.alloc (.cells ⟨rcell x⟩ 33)) := Fr.alloc _ _
  have hri := right_iff x
  unfold S9
  generalize hw1 : w.alloc (.cells ⟨[.int .u8 x.k, .int .i64 x.i, .int .i64 x.r, .int .i64 x.p, .int .i64 x.c, .int .i64 x.q]⟩ 33) = w1
  have hw1' : w.alloc (.cells ⟨rcell x⟩ 33) = w1 := hw1
  rw [hw1'] at b0 f0
  generalize w.heap.size = b at b0 ⊢
  have no : ¬ right x → (Value.bool false = .bool (decide (right x)) ∧ Fr none1 w w1) := fun h => ⟨by rw [decide_eq_false h], f0⟩
  refine ⟨_, b0.c0, ?_⟩
  refine (fields_ok x.k w1).use ?_
  rintro v w1 ⟨rfl, rfl⟩
  refine ⟨_, rfl, ?_⟩
  have a1 : w1.cell? ((⟨b, 0, none⟩ : Addr).add 1) = some (.int .i64 x.i) := b0.c1
  have a2 : w1.cell? ((⟨b, 0, none⟩ : Addr).add 2) = some (.int .i64 x.r) := b0.c2
  have a3 : w1.cell? ((⟨b, 0, none⟩ : Addr).add 3) = some (.int .i64 x.p) := b0.c3
  have a4 : w1.cell? ((⟨b, 0, none⟩ : Addr).add 4) = some (.int .i64 x.c) := b0.c4
  have a5 : w1.cell? ((⟨b, 0, none⟩ : Addr).add 5) = some (.int .i64 x.q) := b0.c5
  -- kinds and the fields that they have
  have hz : fld x.k = 0 ↔ ¬ (1 ≤ x.k ∧ x.k ≤ 5) := by unfold fld; split <;> (try split) <;> (try split) <;> (try split) <;> omega
  have hI := fldI x.k
  have hR := fldR x.k
  have hM := fldM x.k
  have eI : hasI x.k = true ↔ (x.k = 2 ∨ x.k = 3) := by unfold hasI; exact decide_eq_true_iff
  have eR : hasR x.k = true ↔ (3 ≤ x.k ∧ x.k ≤ 5) := by unfold hasR; exact decide_eq_true_iff
  have eM : hasM x.k = true ↔ x.k = 1 := by unfold hasM; exact decide_eq_true_iff
  have k2 : (1 ≤ x.k ∧ x.k ≤ 5) → (hasI x.k = true ∨ x.i = 0) → (hasR x.k = true ∨ x.r = 0) → (hasM x.k = true ∨ x.p = 0 ∧ x.c = 0 ∧ x.q = 0) → S9_k2 ⟨b, 0, none⟩ w1 (fun v w' => v = .bool (decide (right x)) ∧ Fr none1 w w') := by
    intro h1 h2 h3 h4
    rw [eI] at h2
    rw [eR] at h3
    rw [eM] at h4
    refine ⟨_, a1, cD (fun c1 => ⟨_, a1, cD (fun c2 => ⟨_, a2, ?_⟩) fun c2 => no (by rw [hri]; omega)⟩) fun c1 => no (by rw [hri]; omega)⟩
    refine (fits_ok x.r (m := 3) (by decide) w1).use ?_
    rintro v w1 ⟨rfl, rfl⟩
    refine ⟨_, rfl, cD (fun c3 => ⟨_, a3, ?_⟩) fun c3 => no (by rw [hri]; omega)⟩
    refine (fits_ok x.p (m := 6) (by decide) w1).use ?_
    rintro v w1 ⟨rfl, rfl⟩
    refine ⟨_, rfl, cD (fun c4 => ⟨_, a4, ?_⟩) fun c4 => no (by rw [hri]; omega)⟩
    refine (fits_ok x.c (m := 8) (by decide) w1).use ?_
    rintro v w1 ⟨rfl, rfl⟩
    refine ⟨_, rfl, cD (fun c5 => ⟨_, a5, cD (fun c6 => ⟨_, a5, ?_, f0⟩) fun c6 => no (by rw [hri]; omega)⟩) fun c5 => no (by rw [hri]; omega)⟩
    congr 1
    rw [decide_eq_decide, hri]
    omega
  have k1 : (1 ≤ x.k ∧ x.k ≤ 5) → (hasI x.k = true ∨ x.i = 0) → (hasR x.k = true ∨ x.r = 0) → S9_k0 ⟨b, 0, none⟩ (fld x.k) false w1 (fun v w' => v = .bool (decide (right x)) ∧ Fr none1 w w') := by
    intro h1 h2 h3
    refine cF rfl ?_
    rw [hM]
    refine cB (fun c1 => ?_) (fun c1 => ?_)
    · have nM : ¬ (x.k = 1) := by rw [← eM]; simpa using c1
      refine ⟨_, a3, cN (fun c2 => cT rfl (no (by rw [hri]; omega))) fun c2 => ⟨_, a4, cN (fun c3 => cT rfl (no (by rw [hri]; omega))) fun c3 => ⟨_, a5, ?_⟩⟩⟩
      refine cN (fun c4 => no (by rw [hri]; omega)) fun c4 => k2 h1 h2 h3 (.inr ⟨c2, c3, c4⟩)
    · exact cF rfl (k2 h1 h2 h3 (.inl (by simpa using c1)))
  have bad : ¬ right x → S9_k0 ⟨b, 0, none⟩ (fld x.k) true w1 (fun v w' => v = .bool (decide (right x)) ∧ Fr none1 w w') := fun h => cT rfl (no h)
  refine cD (fun c0 => bad (by rw [hri]; omega)) (fun c0 => ?_)
  have h1 : 1 ≤ x.k ∧ x.k ≤ 5 := by omega
  rw [hI, hR]
  have kR : (hasI x.k = true ∨ x.i = 0) → cond (!hasR x.k) (∃ (t26 : Int), w1.cell? ⟨b, 2, none⟩ = some (.int .i64 t26) ∧ S9_k0 ⟨b, 0, none⟩ (fld x.k) (!decide (t26 = 0)) w1 (fun v w' => v = .bool (decide (right x)) ∧ Fr none1 w w')) (S9_k0 ⟨b, 0, none⟩ (fld x.k) false w1 (fun v w' => v = .bool (decide (right x)) ∧ Fr none1 w w')) := by
    intro h2
    refine cB (fun c2 => ?_) (fun c2 => k1 h1 h2 (.inl (by simpa using c2)))
    have nR : ¬ (3 ≤ x.k ∧ x.k ≤ 5) := by rw [← eR]; simpa using c2
    refine ⟨_, b0.c2, ?_⟩
    by_cases hr : x.r = 0
    · rw [decide_eq_true hr]; exact k1 h1 h2 (.inr hr)
    · rw [decide_eq_false hr]; exact bad (by rw [hri]; omega)
  refine cB (fun c1 => ?_) (fun c1 => kR (.inl (by simpa using c1)))
  have nI : ¬ (x.k = 2 ∨ x.k = 3) := by rw [← eI]; simpa using c1
  exact ⟨_, b0.c1, cN (fun c2 => bad (by rw [hri]; omega)) fun c2 => kR (.inr c2)⟩
end Go.Proofs
