/- Floors: which may be; zones; the cells to which one can go. -/
import Derived.Test.YtmhjjhpgbafjpaaDoorFlGfree
set_option linter.unusedVariables false
set_option maxRecDepth 100000
namespace Go.Proofs
open Go Go.Eng
def byLane (f : Fl) (d : Int) : Bool := (besideF f d).any fun b => decide (kdF f.C b.toNat = 2)
def sideB (f : Fl) : Bool := decide (1 ≤ f.W ∧ f.W ≤ 16 ∧ 1 ≤ f.H ∧ f.H ≤ 16 ∧ (f.C.size : Int) = f.W * f.H)
def rightF (f : Fl) : Bool := sideB f && ((List.range f.C.size).all (fun i => decide (kdF f.C i ≠ 0)) && ((docksV f.C).2 && (joinedV f && (docksV f.C).1.all (byLane f))))
theorem right_side {f : Fl} (h : rightF f = true) : Side f ∧ (f.C.size : Int) = f.W * f.H ∧ ∀ i, i < f.C.size → kdF f.C i ≠ 0 := by
  unfold rightF sideB at h
  simp only [Bool.and_eq_true, decide_eq_true_eq] at h
  obtain ⟨⟨h1, h2, h3, h4, h5⟩, h6, _⟩ := h
  exact ⟨⟨h1, h2, h3, h4⟩, h5, fun i hi => by simpa using List.all_eq_true.1 h6 i (List.mem_range.2 hi)⟩
section
variable {f : Fl}
/-- The loop over the docks. -/
theorem right_k6 (hs : Side f) (hz : (f.C.size : Int) = f.W * f.H) {w0 w : World} (b0 : Blk w w0.heap.size 25 (fcell f)) (g0 : Bel w0.heap.size w0 w) {A : Option Addr} {c : Nat} (o : Rd w (fun k => k < w.heap.size) A (ints (docksV f.C).1)) :
    S25_k6 ⟨w0.heap.size, 0, none⟩ A (docksV f.C).1.length c w (fun v w' => v = .bool ((docksV f.C).1.all (byLane f)) ∧ Fr none1 w0 w') := by
  have hC : f.C.size ≤ 256 := by have := side_mul hs; omega
  refine ⟨fun s w' => ∃ i : Nat, s = ((i : Int), ()) ∧ i ≤ (docksV f.C).1.length ∧ ((docksV f.C).1.take i).all (byLane f) = true ∧ Fr none1 w w', fun s _ => (docksV f.C).1.length - s.1.toNat, ⟨0, rfl, Nat.zero_le _, by simp, Fr.refl _ _⟩, ?_⟩
  rintro J s w1 ⟨i, rfl, hi, hall, f1⟩
  dsimp only
  have hl8 : (docksV f.C).1.length ≤ 8 := by
    unfold docksV
    cases e : dkAll f.C f.C.size with
    | none => simp
    | some p =>
      obtain ⟨a, n⟩ := p
      dsimp only
      split
      · rename_i hh
        rw [List.length_map, List.length_range]
        have inv : ∀ i a n, dkAll f.C i = some (a, n) → n = cnt8 a := by
          intro i
          induction i with
          | zero => intro a n h; cases h; decide
          | succ i ih =>
            intro a n h
            rw [dkAll_succ] at h
            cases e : dkAll f.C i with
            | none => rw [e] at h; cases h
            | some p =>
              obtain ⟨a0, n0⟩ := p
              rw [e] at h
              have h0 := ih a0 n0 e
              unfold dkStep at h
              dsimp only at h
              split at h
              · cases h
              · rename_i c hc
                split at h
                · cases h; exact h0
                · rename_i h3
                  split at h
                  · cases h
                  · rename_i hp
                    cases h
                    have h3' : kdB c = 3 := by simpa using h3
                    have := kdB_dock h3'
                    rw [cnt8_upd (by omega) hp (by omega), h0]
        rw [inv _ _ _ e]; exact cnt8_le a
      · simp
  refine cD (fun hlt => ?_) (fun hlt => ?_)
  · have hi' : i < (docksV f.C).1.length := by omega
    have hx : (docksV f.C).1[i]? = some (docksV f.C).1[i] := List.getElem?_eq_getElem hi'
    have hdb := docks_bound (List.getElem_mem hi')
    generalize (docksV f.C).1[i] = d at hx hdb
    have b1 := b0.fr f1 fun h => h
    obtain ⟨a, ha, hc⟩ := rd_int (o.fr f1 fun _ _ _ h => h) hx
    refine ⟨a, ha, by omega, by omega, d, hc, _, b1.cell 0, _, b1.cell 1, _, b1.cell 2, ?_⟩
    refine (beside_ok hs (cell := d) ⟨hdb.1, by omega⟩ w1).use ?_
    rintro v w2 ⟨A2, c2, rfl, o2, f2⟩
    have b2 := b1.fr f2 fun h => h
    have f12 := f1.trans' f2
    have hb4 := beside_len f d
    refine ⟨_, _, _, rfl, fun s w' => ∃ j : Nat, s = (((besideF f d).take j).any (fun b => decide (kdF f.C b.toNat = 2)), (j : Int), ()) ∧ j ≤ (besideF f d).length ∧ w' = w2, fun s _ => (besideF f d).length - s.2.1.toNat, ⟨0, by simp, Nat.zero_le _, rfl⟩, ?_⟩
    rintro J s w3 ⟨j, rfl, hj, rfl⟩
    dsimp only
    refine cD (fun hlt3 => ?_) (fun hlt3 => ?_)
    · have hj' : j < (besideF f d).length := by omega
      have hb : (besideF f d)[j]? = some (besideF f d)[j] := List.getElem?_eq_getElem hj'
      have hbb := beside_bound hs (List.getElem_mem hj')
      generalize (besideF f d)[j] = b at hb hbb
      obtain ⟨a3, ha3, hc3⟩ := rd_int o2.rd hb
      have et : ((besideF f d).take (j + 1)).any (fun b => decide (kdF f.C b.toNat = 2)) = (((besideF f d).take j).any (fun b => decide (kdF f.C b.toNat = 2)) || decide (kdF f.C b.toNat = 2)) := by
        rw [List.take_add_one, hb, List.any_append]; simp
      refine ⟨a3, ha3, by omega, by omega, b, hc3, cB (fun e => ?_) (fun e => ?_)⟩
      · rw [IntWalk.i64_in _ (by omega)]
        exact ⟨⟨j + 1, by rw [et, e]; rfl, by omega, rfl⟩, by dsimp only; omega⟩
      · obtain ⟨ch, hch⟩ := ba_get (C := f.C) (i := b.toNat) (by omega)
        refine ⟨_, b2.cell 2, ch, hbb.1, hch, ?_⟩
        refine (kind_ok ch w3).use ?_
        rintro v w4 ⟨rfl, rfl⟩
        refine ⟨_, rfl, ?_⟩
        rw [IntWalk.i64_in _ (by omega)]
        refine ⟨⟨j + 1, ?_, by omega, rfl⟩, by dsimp only; omega⟩
        rw [et, e, Bool.false_or, kdF_get hch]
        congr 1
        rw [decide_eq_decide]; omega
    · have ej : j = (besideF f d).length := by omega
      subst ej
      rw [List.take_length]
      have ebl : (besideF f d).any (fun b => decide (kdF f.C b.toNat = 2)) = byLane f d := rfl
      rw [ebl]
      cases hbl : byLane f d with
      | false =>
        refine cT rfl ⟨?_, (g0.trans' f12.bel0).top⟩
        have : (docksV f.C).1.all (byLane f) = false := by
          rw [List.all_eq_false]
          exact ⟨d, List.mem_of_getElem? hx, by rw [hbl]; simp⟩
        rw [this]
      | true =>
        refine cF rfl ?_
        rw [IntWalk.i64_in _ (by omega)]
        refine ⟨⟨i + 1, rfl, by omega, ?_, f12⟩, by dsimp only; omega⟩
        rw [List.take_add_one, hx, List.all_append, hall]
        simp [hbl]
  · have e : i = (docksV f.C).1.length := by omega
    subst e
    rw [List.take_length] at hall
    exact ⟨by rw [hall], (g0.trans' f1.bel0).top⟩
theorem right_ok (hC : f.C.size ≤ 256) (hW : -1000 ≤ f.W ∧ f.W ≤ 1000) (hH : -1000 ≤ f.H ∧ f.H ≤ 1000) (w : World) : Ret Tryd.prog 25 [fval f] w fun v w' => v = .bool (rightF f) ∧ Fr none1 w w' := by
  apply S25_calls
  have b0 := Blk.new w 25 (fcell f)
  have f0 : Fr none1 w (w.alloc (.cells ⟨fcell f⟩ 25)) := Fr.alloc _ _
  have no : ∀ {b : Bool}, b = true → sideB f = false → S25_k0 ⟨w.heap.size, 0, none⟩ b (w.alloc (.cells ⟨fcell f⟩ 25)) (fun v w' => v = .bool (rightF f) ∧ Fr none1 w w') := fun e hb => by
    subst e
    refine cT rfl ⟨?_, f0⟩
    unfold rightF; rw [hb]; rfl
  have sb : ¬ (1 ≤ f.W ∧ f.W ≤ 16 ∧ 1 ≤ f.H ∧ f.H ≤ 16 ∧ (f.C.size : Int) = f.W * f.H) → sideB f = false := fun h => decide_eq_false h
  refine ⟨_, b0.cell 0, cD (fun h => no rfl (sb (by omega))) fun h1 => ⟨_, b0.cell 0, cD (fun h => no rfl (sb (by omega))) fun h2 => ⟨_, b0.cell 1, cD (fun h => no rfl (sb (by omega))) fun h3 => ⟨_, b0.cell 1, cD (fun h => no rfl (sb (by omega))) fun h4 => ⟨_, b0.cell 2, _, b0.cell 0, _, b0.cell 1, ?_⟩⟩⟩⟩⟩
  have hs : Side f := ⟨by omega, by omega, by omega, by omega⟩
  have hm := side_mul hs
  rw [IntWalk.i64_in (f.W * f.H) (by omega)]
  by_cases hz : (f.C.size : Int) = f.W * f.H
  · rw [decide_eq_true hz]
    have hsb : sideB f = true := decide_eq_true ⟨hs.1, hs.2.1, hs.2.2.1, hs.2.2.2, hz⟩
    refine cF rfl ⟨_, b0.cell 2, fun s w' => ∃ i : Nat, s = ((i : Int), ()) ∧ i ≤ f.C.size ∧ ((List.range i).all fun i => decide (kdF f.C i ≠ 0)) = true ∧ w' = w.alloc (.cells ⟨fcell f⟩ 25), fun s _ => f.C.size - s.1.toNat, ⟨0, rfl, Nat.zero_le _, by simp, rfl⟩, ?_⟩
    rintro J s w1 ⟨i, rfl, hi, hall, rfl⟩
    dsimp only
    refine cD (fun hlt => ?_) (fun hlt => ?_)
    · have hi' : i < f.C.size := by omega
      obtain ⟨ch, hc⟩ := ba_get hi'
      refine ⟨_, b0.cell 2, ch, by omega, by rw [Int.toNat_natCast]; exact hc, ?_⟩
      refine (kind_ok ch _).use ?_
      rintro v w2 ⟨rfl, rfl⟩
      refine ⟨_, rfl, cD (fun h => ?_) (fun h => ?_)⟩
      · refine ⟨?_, f0⟩
        unfold rightF
        have : ((List.range f.C.size).all fun i => decide (kdF f.C i ≠ 0)) = false := by
          rw [List.all_eq_false]
          exact ⟨i, List.mem_range.2 hi', by rw [kdF_get hc]; simp; omega⟩
        rw [this, hsb]; rfl
      · rw [IntWalk.i64_in _ (by omega)]
        refine ⟨⟨i + 1, rfl, by omega, ?_, rfl⟩, by dsimp only; omega⟩
        rw [List.range_succ, List.all_append, hall]
        simp
        rw [kdF_get hc]; omega
    · have e : i = f.C.size := by omega
      subst e
      refine ⟨_, b0.cell 0, _, b0.cell 1, _, b0.cell 2, ?_⟩
      refine (docks_ok hC _).use ?_
      rintro v w2 ⟨A2, c2, rfl, o2, f2⟩
      refine ⟨_, _, _, _, rfl, ?_⟩
      have b2 := b0.fr f2 fun h => h
      have f02 := f0.trans' f2
      have hR : rightF f = ((docksV f.C).2 && (joinedV f && (docksV f.C).1.all (byLane f))) := by unfold rightF; rw [hsb, hall]; rfl
      rw [hR]
      cases hd : (docksV f.C).2 with
      | false => exact cT rfl (cT rfl ⟨rfl, f02⟩)
      | true =>
        refine cF rfl ⟨_, b2.cell 0, _, b2.cell 1, _, b2.cell 2, ?_⟩
        refine (joined_ok hs hz w2).use ?_
        rintro v w3 ⟨rfl, f3⟩
        refine ⟨_, rfl, ?_⟩
        have f03 := f02.trans' f3
        cases hj : joinedV f with
        | false => exact cT rfl ⟨rfl, f03⟩
        | true =>
          refine cF rfl ?_
          have := right_k6 hs hz (c := c2) (b2.fr f3 fun h => h) f03.bel0 (((o2.rd.mono (ok' := fun k => k < w2.heap.size) fun k hk _ => hk).fr f3 fun _ _ _ h => h).mono fun k _ h => Nat.lt_of_lt_of_le h f3.size)
          simpa using this
  · rw [decide_eq_false hz]
    exact no rfl (sb fun h => hz h.2.2.2.2)
end
end Go.Proofs
