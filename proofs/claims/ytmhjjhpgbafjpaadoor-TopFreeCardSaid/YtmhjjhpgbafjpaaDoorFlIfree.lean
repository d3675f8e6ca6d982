/- Floors: zones; the cells to which one can go. -/
import Derived.Test.YtmhjjhpgbafjpaaDoorFlHfree
set_option linter.unusedVariables false
set_option maxRecDepth 100000
namespace Go.Proofs
open Go Go.Eng
def FOk (f : Fl) : Prop := f.C.size ≤ 256 ∧ (-1000 ≤ f.W ∧ f.W ≤ 1000) ∧ (-1000 ≤ f.H ∧ f.H ≤ 1000)
def isF (f : Fl) (cell : Int) (k : Nat) : Bool := decide (0 ≤ cell ∧ cell < (f.C.size : Int)) && (decide (kdF f.C cell.toNat = k) && rightF f)
def nearF (f : Fl) (cell : Int) : List Int := if isF f cell 2 || isF f cell 3 then (besideF f cell).filter fun b => decide (kdF f.C b.toNat ≠ 1) else []
theorem isF_right {f : Fl} {cell : Int} {k : Nat} (h : isF f cell k = true) : (0 ≤ cell ∧ cell < (f.C.size : Int)) ∧ kdF f.C cell.toNat = k ∧ rightF f = true := by
  unfold isF at h
  simp only [Bool.and_eq_true, decide_eq_true_eq] at h
  exact h
theorem kdB_wall (c : UInt8) : kdB c = 1 ↔ c.toNat = 35 := by
  unfold kdB
  constructor
  · intro h
    split at h
    · assumption
    · split at h
      · cases h
      · split at h <;> cases h
  · intro h; rw [if_pos h]
section
variable {f : Fl}
theorem is_ok (hf : FOk f) (cell : Int) (k : Nat) (w : World) : Ret Tryd.prog 49 [fval f, .int .i64 cell, .int .i64 (k : Int)] w fun v w' => v = .bool (isF f cell k) ∧ Fr none1 w w' := by
  apply S49_calls
  have b0 := Blk.new w 25 (fcell f)
  have f0 : Fr none1 w (w.alloc (.cells ⟨fcell f⟩ 25)) := Fr.alloc _ _
  have no : isF f cell k = false → (Value.bool false = .bool (isF f cell k) ∧ Fr none1 w (w.alloc (.cells ⟨fcell f⟩ 25))) := fun h => ⟨by rw [h], f0⟩
  refine cD (fun h1 => ⟨_, b0.cell 2, cD (fun h2 => ?_) (fun h2 => no (by unfold isF; rw [decide_eq_false (by omega)]; rfl))⟩) (fun h1 => no (by unfold isF; rw [decide_eq_false (by omega)]; rfl))
  obtain ⟨ch, hc⟩ := ba_get (C := f.C) (i := cell.toNat) (by omega)
  refine ⟨_, b0.cell 2, ch, h1, hc, ?_⟩
  refine (kind_ok ch _).use ?_
  rintro v w2 ⟨rfl, rfl⟩
  have hk := kdF_get hc
  refine ⟨_, rfl, cD (fun h3 => ?_) (fun h3 => no (by unfold isF; rw [decide_eq_false (show ¬ kdF f.C cell.toNat = k by rw [hk]; omega)]; simp))⟩
  refine ⟨_, b0.cell 0, _, b0.cell 1, _, b0.cell 2, ?_⟩
  refine (right_ok hf.1 hf.2.1 hf.2.2 _).use ?_
  rintro v w3 ⟨rfl, f3⟩
  refine ⟨_, rfl, ?_, f0.trans' f3⟩
  unfold isF
  rw [decide_eq_true (show 0 ≤ cell ∧ cell < (f.C.size : Int) from ⟨h1, by omega⟩), decide_eq_true (show kdF f.C cell.toNat = k by rw [hk]; omega)]
  rfl
theorem zone_ok (hf : FOk f) (cell : Int) (w : World) : Ret Tryd.prog 32 [fval f, .int .i64 cell] w fun v w' => (∃ z, v = .tuple ⟨[.int .i64 z, .bool (isF f cell 2)]⟩) ∧ Fr none1 w w' := by
  apply S32_calls
  have b0 := Blk.new w 25 (fcell f)
  have f0 : Fr none1 w (w.alloc (.cells ⟨fcell f⟩ 25)) := Fr.alloc _ _
  refine ⟨_, b0.cell 0, _, b0.cell 1, _, b0.cell 2, ?_⟩
  refine (is_ok hf cell 2 _).use ?_
  rintro v w2 ⟨rfl, f2⟩
  refine ⟨_, rfl, ?_⟩
  have b2 := b0.fr f2 fun h => h
  have f02 := f0.trans' f2
  cases h : isF f cell 2 with
  | false => exact cT rfl ⟨⟨0, rfl⟩, f02⟩
  | true =>
    obtain ⟨⟨h1, h2⟩, h3, h4⟩ := isF_right h
    obtain ⟨ch, hc⟩ := ba_get (C := f.C) (i := cell.toNat) (by omega)
    exact cF rfl ⟨_, b2.cell 2, ch, h1, hc, ⟨_, rfl⟩, f02⟩
theorem near_ok (hf : FOk f) {cell : Int} (hcell : cell < 100000) (w : World) : Ret Tryd.prog 33 [fval f, .int .i64 cell] w fun v w' => ∃ A c, v = .slice A (nearF f cell).length c ∧ Own w' 3 1 (from1 w.heap.size) A (nearF f cell).length c (ints (nearF f cell)) ∧ Fr none1 w w' := by
  apply S33_calls
  have b0 := Blk.new w 25 (fcell f)
  have f0 : Fr none1 w (w.alloc (.cells ⟨fcell f⟩ 25)) := Fr.alloc _ _
  refine ⟨_, b0.cell 0, _, b0.cell 1, _, b0.cell 2, ?_⟩
  refine (is_ok hf cell 2 _).use ?_
  rintro v w2 ⟨rfl, f2⟩
  refine ⟨_, rfl, ?_⟩
  have b2 := b0.fr f2 fun h => h
  have f02 := f0.trans' f2
  -- the cells beside it
  have go : ∀ {w3}, Fr none1 w w3 → Blk w3 w.heap.size 25 (fcell f) → (isF f cell 2 || isF f cell 3) = true → S33_k0 cell ⟨w.heap.size, 0, none⟩ false w3 (fun v w' => ∃ A c, v = .slice A (nearF f cell).length c ∧ Own w' 3 1 (from1 w.heap.size) A (nearF f cell).length c (ints (nearF f cell)) ∧ Fr none1 w w') := by
    intro w3 f3 b3 h
    have hR : rightF f = true ∧ 0 ≤ cell := by
      rw [Bool.or_eq_true] at h
      rcases h with h | h
      · exact ⟨(isF_right h).2.2, (isF_right h).1.1⟩
      · exact ⟨(isF_right h).2.2, (isF_right h).1.1⟩
    obtain ⟨hs, hz, _⟩ := right_side hR.1
    have eN : nearF f cell = (besideF f cell).filter fun b => decide (kdF f.C b.toNat ≠ 1) := if_pos h
    refine cF rfl ⟨_, b3.cell 0, _, b3.cell 1, _, b3.cell 2, ?_⟩
    refine (beside_ok hs ⟨hR.2, hcell⟩ w3).use ?_
    rintro v w4 ⟨A4, c4, rfl, o4, f4⟩
    have b4 := b3.fr f4 fun h => h
    have f14 := f3.trans' f4
    have hb4 := beside_len f cell
    have hs4 := f14.size
    have hbl := b4.lt
    rw [eN]
    refine ⟨_, _, _, rfl, fun s w' => ∃ (j : Nat) (A : Option Addr) (c : Nat), s = ((A, (((besideF f cell).take j).filter fun b => decide (kdF f.C b.toNat ≠ 1)).length, c), (j : Int), ()) ∧ j ≤ (besideF f cell).length ∧ Own w' 3 1 (from1 w4.heap.size) A (((besideF f cell).take j).filter fun b => decide (kdF f.C b.toNat ≠ 1)).length c (ints (((besideF f cell).take j).filter fun b => decide (kdF f.C b.toNat ≠ 1))) ∧ Fr none1 w4 w', fun s _ => (besideF f cell).length - s.2.1.toNat, ⟨0, none, 0, rfl, Nat.zero_le _, Own.nil _ _ _ _, Fr.refl _ _⟩, ?_⟩
    rintro J s w5 ⟨j, A, c, rfl, hj, o, f5⟩
    dsimp only
    refine cD (fun hlt => ?_) (fun hlt => ?_)
    · have hj' : j < (besideF f cell).length := by omega
      have hx : (besideF f cell)[j]? = some (besideF f cell)[j] := List.getElem?_eq_getElem hj'
      have hbb := beside_bound hs (List.getElem_mem hj')
      generalize (besideF f cell)[j] = b at hx hbb
      have hlen : (((besideF f cell).take j).filter fun b => decide (kdF f.C b.toNat ≠ 1)).length ≤ 100 := Nat.le_trans (List.length_filter_le _ _) (by rw [List.length_take]; omega)
      have et : ((besideF f cell).take (j + 1)).filter (fun b => decide (kdF f.C b.toNat ≠ 1)) = (((besideF f cell).take j).filter fun b => decide (kdF f.C b.toNat ≠ 1)) ++ (if kdF f.C b.toNat ≠ 1 then [b] else []) := by
        rw [List.take_add_one, hx, List.filter_append]
        congr 1
        by_cases h : kdF f.C b.toNat = 1 <;> simp [h]
      have b5 := b4.fr f5 fun h => h
      have o4' := (o4.rd.mono (ok' := fun k => k < w4.heap.size) fun k hk _ => hk).fr f5 fun _ _ _ h => h
      obtain ⟨a, ha, hc⟩ := rd_int o4' hx
      obtain ⟨ch, hch⟩ := ba_get (C := f.C) (i := b.toNat) (by omega)
      have hk := kdF_get hch
      have hw := kdB_wall ch
      refine ⟨a, ha, by omega, by omega, b, hc, _, b5.cell 2, ch, hbb.1, hch, cN (fun hne => ?_) (fun he => ?_)⟩
      · rw [if_pos (by rw [hk]; omega)] at et
        obtain ⟨A', c', w6, r6, o6, f6⟩ := app_int o b (by omega)
        have hs5 := f5.size
        refine ⟨A', _, c', w6, r6, ?_⟩
        rw [IntWalk.i64_in _ (by omega)]
        rw [← et] at o6 ⊢
        exact ⟨⟨j + 1, A', c', rfl, by omega, o6.mono fun k _ hk => hk.elim id fun h => Nat.le_trans hs5 h, f5.trans f6 fun k hk ⟨a, ha, e⟩ => by have := (o.has a ha).1; have : w4.heap.size ≤ a.block := this; omega⟩, by dsimp only; omega⟩
      · rw [if_neg (by rw [hk]; omega), List.append_nil] at et
        rw [IntWalk.i64_in _ (by omega)]
        exact ⟨⟨j + 1, A, c, by rw [et]; rfl, by omega, by rw [et]; exact o, f5⟩, by dsimp only; omega⟩
    · have e : j = (besideF f cell).length := by omega
      subst e
      rw [List.take_length] at o ⊢
      exact ⟨A, c, rfl, o.mono fun k _ h => Nat.le_trans hs4 h, f14.trans' f5⟩
  cases h2 : isF f cell 2 with
  | true => exact cF rfl (go f02 b2 (by rw [h2]; rfl))
  | false =>
    refine cT rfl ⟨_, b2.cell 0, _, b2.cell 1, _, b2.cell 2, ?_⟩
    refine (is_ok hf cell 3 _).use ?_
    rintro v w3 ⟨rfl, f3⟩
    refine ⟨_, rfl, ?_⟩
    have f03 := f02.trans' f3
    cases h3 : isF f cell 3 with
    | true => exact go f03 (b2.fr f3 fun h => h) (by rw [h3]; simp)
    | false =>
      have : nearF f cell = [] := by unfold nearF; rw [h2, h3]; rfl
      rw [this]
      exact cT rfl ⟨none, 0, rfl, Own.nil _ _ _ _, f03⟩
end
/-! ### What is near -/
theorem near_bound {f : Fl} {a b : Int} (h : b ∈ nearF f a) : rightF f = true ∧ (0 ≤ a ∧ a < (f.C.size : Int)) ∧ (0 ≤ b ∧ b < (f.C.size : Int)) ∧ kdF f.C b.toNat ≠ 1 ∧ kdF f.C a.toNat ≠ 1 ∧ b ∈ besideF f a := by
  unfold nearF at h
  split at h
  · rename_i hc
    obtain ⟨h1, h2⟩ := List.mem_filter.1 h
    have hx : rightF f = true ∧ (0 ≤ a ∧ a < (f.C.size : Int)) ∧ kdF f.C a.toNat ≠ 1 := by
      rw [Bool.or_eq_true] at hc
      rcases hc with h | h
      · obtain ⟨q1, q2, q3⟩ := isF_right h; exact ⟨q3, q1, by omega⟩
      · obtain ⟨q1, q2, q3⟩ := isF_right h; exact ⟨q3, q1, by omega⟩
    obtain ⟨hs, hz, _⟩ := right_side hx.1
    have hb := beside_bound hs h1
    exact ⟨hx.1, hx.2.1, by omega, by simpa using h2, hx.2.2, h1⟩
  · cases h
theorem beside_sym {f : Fl} (hs : Side f) {a b : Int} (ha : 0 ≤ a ∧ a < f.W * f.H) (h : b ∈ besideF f a) : a ∈ besideF f b := by
  obtain ⟨s1, s2, s3, s4⟩ := hs
  unfold besideF at h ⊢
  obtain ⟨d, hd, hb⟩ := List.mem_filterMap.1 h
  unfold nb at hb
  split at hb
  · rename_i hc
    cases hb
    obtain ⟨h1, h2, h3, h4⟩ := hc
    have e1 : Int.tmod a f.W = a % f.W := Int.tmod_eq_emod_of_nonneg ha.1
    have e2 : Int.tdiv a f.W = a / f.W := Int.tdiv_eq_ediv_of_nonneg ha.1
    rw [e1] at h1 h2 ⊢
    rw [e2] at h3 h4 ⊢
    clear e1 e2
    have m1 := Int.emod_nonneg a (show f.W ≠ 0 by omega)
    have m2 := Int.emod_lt_of_pos a (show 0 < f.W by omega)
    have m3 : 0 ≤ a / f.W := Int.ediv_nonneg ha.1 (by omega)
    have m4 : a / f.W < f.H := Int.ediv_lt_of_lt_mul (by omega) (by rw [Int.mul_comm]; exact ha.2)
    have m5 := Int.emod_add_mul_ediv a f.W
    generalize a % f.W = x at *
    generalize a / f.W = y at *
    have g1 : 0 ≤ (y + d.2) * f.W := Int.mul_nonneg h3 (by omega)
    have hb0 : 0 ≤ (y + d.2) * f.W + (x + d.1) := by omega
    have t1 : Int.tmod ((y + d.2) * f.W + (x + d.1)) f.W = x + d.1 := by
      rw [Int.tmod_eq_emod_of_nonneg hb0, Int.add_comm, Int.add_mul_emod_self_right]
      exact Int.emod_eq_of_lt h1 h2
    have t2 : Int.tdiv ((y + d.2) * f.W + (x + d.1)) f.W = y + d.2 := by
      rw [Int.tdiv_eq_ediv_of_nonneg hb0, Int.add_comm, Int.add_mul_ediv_right _ _ (by omega), Int.ediv_eq_zero_of_lt h1 h2]; omega
    refine List.mem_filterMap.2 ⟨(-d.1, -d.2), ?_, ?_⟩
    · simp [dirs] at hd ⊢
      rcases hd with rfl | rfl | rfl | rfl <;> simp
    · unfold nb
      rw [t1, t2, if_pos (by dsimp only; omega)]
      dsimp only
      have k1 : y + d.2 + -d.2 = y := by omega
      have k2 : x + d.1 + -d.1 = x := by omega
      rw [k1, k2, Int.mul_comm]
      congr 1; omega
  · cases hb
theorem near_sym {f : Fl} {a b : Int} (h : b ∈ nearF f a) : a ∈ nearF f b := by
  obtain ⟨h1, h2, h3, h4, h5, h6⟩ := near_bound h
  obtain ⟨hs, hz, hk⟩ := right_side h1
  have hb : isF f b 2 = true ∨ isF f b 3 = true := by
    have h0 := hk b.toNat (by omega)
    have hle : kdF f.C b.toNat ≤ 3 := by
      unfold kdF
      split
      · unfold kdB
        split
        · omega
        · split
          · omega
          · split <;> omega
      · omega
    have : kdF f.C b.toNat = 2 ∨ kdF f.C b.toNat = 3 := by omega
    unfold isF
    rw [decide_eq_true h3, h1]
    rcases this with e | e
    · left; rw [e]; rfl
    · right; rw [e]; rfl
  unfold nearF
  rw [if_pos (by rw [Bool.or_eq_true]; exact hb)]
  refine List.mem_filter.2 ⟨beside_sym hs (by omega) h6, by simpa using h5⟩
theorem near_len (f : Fl) (a : Int) : (nearF f a).length ≤ 4 := by
  unfold nearF
  split
  · exact Nat.le_trans (List.length_filter_le _ _) (beside_len f a)
  · simp
end Go.Proofs
