/- Ways through time: what lies beyond a stay; from where one came. -/
import Derived.Test.YtmhjjhpgbafjpaaDoorSpDfree
set_option linter.unusedVariables false
set_option maxRecDepth 100000
namespace Go.Proofs
open Go Go.Eng
section
variable {w : World} {ok okt ok2 : Nat → Prop} {cof cof2 : Nat → Int} {f : Fl} {s t m nt n : Nat} {from_ start last : Int} {tf : Int → List Wn} {g : Int → List Sy}
theorem Sr.near (S : Sr w ok f s t m from_ start last) {i : Int} (hi : 0 ≤ i ∧ i < (f.C.size : Int)) : ∃ nA nc, w.cell? ⟨s, 0, none⟩ = some (.slice nA f.C.size nc) ∧ ∃ a Ai ci, nA = some a ∧ w.cell? (a.add (Int.toNat i * 1)) = some (.slice Ai (nearF f i).length ci) ∧ Rd w (fun k => k < w.heap.size) Ai (ints (nearF f i)) := by
  obtain ⟨h0, nA, nc, lA, lc, vs, h1, h2, h3, h4⟩ := S
  obtain ⟨Ai, ci, q1, q2⟩ := h3 i.toNat (by omega)
  have e : ((i.toNat : Nat) : Int) = i := by omega
  rw [e] at q1 q2
  obtain ⟨a, ha, _, hc⟩ := h2.rd.at q1
  exact ⟨nA, nc, h1.cell 0, a, Ai, ci, ha, by rw [Nat.mul_one]; exact hc, q2.mono fun k hk _ => hk⟩
theorem Sr.lane (S : Sr w ok f s t m from_ start last) {i : Int} (hi : 0 ≤ i ∧ i < (f.C.size : Int)) : ∃ lA lc, w.cell? ⟨s, 1, none⟩ = some (.slice lA f.C.size lc) ∧ ∃ a, lA = some a ∧ w.cell? (a.add (Int.toNat i * 1)) = some (.bool (isF f i 2)) := by
  obtain ⟨h0, nA, nc, lA, lc, vs, h1, h2, h3, h4⟩ := S
  obtain ⟨a, ha, hc⟩ := rd_bool h4.rd (lane_get hi)
  exact ⟨lA, lc, h1.cell 1, a, ha, hc⟩
theorem beyond_ok (S : Sr w ok f s t m from_ start last) (T : Tab w okt cof t nt tf) (x : Sy) (hx : 0 ≤ x.c ∧ x.c < (f.C.size : Int)) (hC : f.C.size ≤ 256) (hfr : 0 ≤ x.fr ∧ x.fr ≤ 100000) (hT : ∀ c ∈ nearF f x.c, tf c = []) : Ret Tryd.prog 38 [.pointer (some ⟨s, 0, none⟩), .agg ⟨ycell x⟩] w fun v w' => ∃ A c, v = .slice A (beyF f from_ last x).length c ∧ Own w' 58 3 (from1 w.heap.size) A (beyF f from_ last x).length c (rws ycell (beyF f from_ last x)) ∧ Fr none1 w w' := by
  apply S38_calls
  have b0 := Blk.new w 58 (ycell x)
  have f0 : Fr none1 w (w.alloc (.cells ⟨ycell x⟩ 58)).drew := (Fr.alloc _ _ : Fr none1 w (w.alloc (.cells ⟨ycell x⟩ 58))).trans' (Fr.drew _)
  have b1 := b0.fr (Fr.drew _ : Fr none1 _ (w.alloc (.cells ⟨ycell x⟩ 58)).drew) fun h => h
  have S1 := S.fr f0 fun _ _ _ h => h
  show ∃ t14, _ ∧ ∃ t12, World.cell? (w.alloc (.cells ⟨ycell x⟩ 58)).drew _ = _ ∧ _
  have b1c := b1.cell 0
  -- behind the first look
  have k1 : ∀ {w1}, Fr none1 w w1 → Blk w1 w.heap.size 58 (ycell x) → beyF f from_ last x = (nearF f x.c).flatMap (bey1 x last) → S38_k0 (some ⟨s, 0, none⟩) ⟨w.heap.size, 0, none⟩ false w1 (fun v w' => ∃ A c, v = .slice A (beyF f from_ last x).length c ∧ Own w' 58 3 (from1 w.heap.size) A (beyF f from_ last x).length c (rws ycell (beyF f from_ last x)) ∧ Fr none1 w w') := by
    intro w1 f1 b1 eB
    refine cF rfl ?_
    unfold S38_k1
    have f2 := f1.trans' (Fr.drew w1)
    have b2 := b1.fr (Fr.drew w1 : Fr none1 w1 w1.drew) fun h => h
    generalize w1.drew = w2 at f2 b2 ⊢
    have S2 := S.fr f2 fun _ _ _ h => h
    obtain ⟨nA, nc, cn, a, Ai, ci, ha, cA, rA⟩ := S2.near hx
    refine ⟨_, rfl, nA, _, nc, cn, _, b2.cell 0, a, ha, hx.1, hx.2, Ai, _, ci, cA, ?_⟩
    rw [eB]
    have hnl := near_len f x.c
    have hlen : ∀ l : List Int, (l.flatMap (bey1 x last)).length ≤ l.length := by
      intro l
      induction l with
      | nil => simp
      | cons a l ih =>
        rw [List.flatMap_cons, List.length_append, List.length_cons]
        have : (bey1 x last a).length ≤ 1 := by unfold bey1; split <;> simp
        omega
    refine ⟨fun s' w' => ∃ (j : Nat) (A : Option Addr) (c : Nat), s' = ((A, (((nearF f x.c).take j).flatMap (bey1 x last)).length, c), (j : Int), ()) ∧ j ≤ (nearF f x.c).length ∧ Own w' 58 3 (from1 w2.heap.size) A (((nearF f x.c).take j).flatMap (bey1 x last)).length c (rws ycell (((nearF f x.c).take j).flatMap (bey1 x last))) ∧ Blk w' w.heap.size 58 (ycell x) ∧ Fr none1 w2 w' ∧ Fr none1 w w', fun s' _ => (nearF f x.c).length - s'.2.1.toNat, ⟨0, none, 0, rfl, Nat.zero_le _, Own.nil _ _ _ _, b2, Fr.refl _ _, f2⟩, ?_⟩
    rintro J s' w3 ⟨j, A, c, rfl, hj, o, b3, f23, f3⟩
    dsimp only
    refine cD (fun hlt => ?_) (fun hlt => ?_)
    · have hj' : j < (nearF f x.c).length := by omega
      have hc : (nearF f x.c)[j]? = some (nearF f x.c)[j] := List.getElem?_eq_getElem hj'
      have hcm := List.getElem_mem hj'
      generalize (nearF f x.c)[j] = cc at hc hcm
      have hcb := (near_bound hcm).2.2.1
      obtain ⟨a3, ha3, hc3⟩ := rd_int ((rA).fr f23 fun _ _ _ h => h) hc
      have S3 := S.fr f3 fun _ _ _ h => h
      have T3 := T.fr f3 fun _ _ _ h => h
      obtain ⟨qA, qc, lA, lc, hb3⟩ := S3.blk
      refine ⟨a3, ha3, by omega, by omega, cc, hc3, _, rfl, _, by rw [add_g]; exact hb3.cell 2, ?_⟩
      have fc := wfree_ok T3 (cell := cc) (i64r_of (by omega)) (hT cc hcm)
      refine fc.use ?_
      rintro v w4 ⟨A4, c4, rfl, o4, f4⟩
      have htl : (((nearF f x.c).take j).flatMap (bey1 x last)).length ≤ 4 := Nat.le_trans (hlen _) (by rw [List.length_take]; omega)
      have et : ((nearF f x.c).take (j + 1)).flatMap (bey1 x last) = ((nearF f x.c).take j).flatMap (bey1 x last) ++ bey1 x last cc := by
        rw [List.take_add_one, hc, List.flatMap_append]; simp
      have o5 := o.fr f4 fun _ _ _ h => h
      have b5 := b3.fr f4 fun h => h
      have f24 := f23.trans' f4
      have f04 := f3.trans' f4
      have hs4 := f4.size
      refine ⟨_, _, _, rfl, fun s' w' => ∃ (i : Nat) (A : Option Addr) (c : Nat) (L : List Sy), s' = ((A, L.length, c), (i : Int), ()) ∧ i ≤ 1 ∧ L = (if i = 0 then ((nearF f x.c).take j).flatMap (bey1 x last) else ((nearF f x.c).take (j + 1)).flatMap (bey1 x last)) ∧ Own w' 58 3 (from1 w2.heap.size) A L.length c (rws ycell L) ∧ Blk w' w.heap.size 58 (ycell x) ∧ Fr none1 w2 w' ∧ Fr none1 w w' ∧ (i = 0 → Fr none1 w4 w'), fun s' _ => 1 - s'.2.1.toNat, ⟨0, A, c, _, rfl, by omega, rfl, o5, b5, f24, f04, fun _ => Fr.refl _ _⟩, ?_⟩
      rintro J s' w5 ⟨i, A5, c5, L, rfl, hi, hL, o5, b5, f25, f05, q4⟩
      dsimp only
      refine cD (fun hlt5 => ?_) (fun hlt5 => ?_)
      · have e0 : i = 0 := by omega
        subst e0
        rw [if_pos rfl] at hL
        subst hL
        have f45 := q4 rfl
        obtain ⟨t5, ht5, c0, c1⟩ := row2 ((o4.rd.mono (ok' := fun k => k < w4.heap.size) fun k hk _ => hk).fr f45 fun _ _ _ h => h) (i := 0) (x := (0, 1048576)) rfl
        obtain ⟨p1, p2, p3, p4, b6, f6⟩ := cp2 w5 33 (.int .i64 0) (.int .i64 0) (.int .i64 0) (.int .i64 1048576)
        have b7 := b5.fr f6 fun h => h
        have o7 := o5.fr f6 fun _ _ _ h => h
        have f26 := f25.trans' f6
        have f06 := f05.trans' f6
        refine ⟨t5, ht5, by omega, by omega, _, c0, _, c1, p1, p2, p3, p4, ?_⟩
        generalize World.setCell _ _ _ = w6 at b6 f6 b7 o7 f26 f06 ⊢
        have S6 := S.fr f06 fun _ _ _ h => h
        obtain ⟨qA6, qc6, lA6, lc6, hb6⟩ := S6.blk
        have ew : IntKind.i64.wrap (x.fr + 1) = x.fr + 1 := IntWalk.i64_in _ (by omega)
        have emx : (if (0 : Int) > x.fr + 1 then (0 : Int) else x.fr + 1) = x.fr + 1 := if_neg (by omega)
        have k7 : ∀ b : Bool, b = decide (beyC x last) → S38_k7 (some ⟨s, 0, none⟩) ⟨w.heap.size, 0, none⟩ A5 (((nearF f x.c).take j).flatMap (bey1 x last)).length c5 cc ⟨w5.heap.size, 0, none⟩ (x.fr + 1) Ai (nearF f x.c).length ci ((nearF f x.c).length : Int) (j : Int) A4 1 c4 ((1 : Nat) : Int) ((0 : Nat) : Int) b w6 (fun v w' => ∃ A c, v = .slice A ((nearF f x.c).flatMap (bey1 x last)).length c ∧ Own w' 58 3 (from1 w.heap.size) A ((nearF f x.c).flatMap (bey1 x last)).length c (rws ycell ((nearF f x.c).flatMap (bey1 x last))) ∧ Fr none1 w w')
            (fun s' w'' => (∃ (j : Nat) (A : Option Addr) (c : Nat), s' = ((A, (((nearF f x.c).take j).flatMap (bey1 x last)).length, c), (j : Int), ()) ∧ j ≤ (nearF f x.c).length ∧ Own w'' 58 3 (from1 w2.heap.size) A (((nearF f x.c).take j).flatMap (bey1 x last)).length c (rws ycell (((nearF f x.c).take j).flatMap (bey1 x last))) ∧ Blk w'' w.heap.size 58 (ycell x) ∧ Fr none1 w2 w'' ∧ Fr none1 w w'') ∧ (nearF f x.c).length - s'.2.1.toNat < (nearF f x.c).length - (j : Int).toNat)
            (fun s' w'' => (∃ (i : Nat) (A : Option Addr) (c : Nat) (L : List Sy), s' = ((A, L.length, c), (i : Int), ()) ∧ i ≤ 1 ∧ L = (if i = 0 then ((nearF f x.c).take j).flatMap (bey1 x last) else ((nearF f x.c).take (j + 1)).flatMap (bey1 x last)) ∧ Own w'' 58 3 (from1 w2.heap.size) A L.length c (rws ycell L) ∧ Blk w'' w.heap.size 58 (ycell x) ∧ Fr none1 w2 w'' ∧ Fr none1 w w'' ∧ (i = 0 → Fr none1 w4 w'')) ∧ 1 - s'.2.1.toNat < 1 - ((0 : Nat) : Int).toNat) := by
          intro b hb
          have hbl := b7.lt
          refine cB (fun h => ?_) (fun h => ?_)
          · rw [h] at hb
            have e1 : bey1 x last cc = [⟨cc, x.fr + 1, 1048576⟩] := if_pos (of_decide_eq_true hb.symm)
            rw [e1] at et
            refine ⟨_, by rw [add_g]; exact b6.cell 1, ?_⟩
            obtain ⟨A8, c8, w8, r8, o8, f8⟩ := app_stay o7 ⟨cc, x.fr + 1, 1048576⟩ (by omega)
            refine ⟨A8, _, c8, w8, r8, ?_⟩
            rw [IntWalk.i64_in _ (by omega), ← et]
            rw [← et] at o8
            have hA : ∀ k, ownAt A5 k → w2.heap.size ≤ k := fun k ⟨a, ha, e⟩ => e ▸ (o7.has a ha).1
            have hs2 := f26.size
            have hl2 := b2.lt
            have hs6 := f6.size
            have hbx : ¬ ownAt A5 w.heap.size := fun h => by have := hA _ h; omega
            have top : Fr none1 w w8 := f06.trans f8 fun k hk h => by have := hA k h; omega
            have o9 := o8.mono (ok' := from1 w2.heap.size) fun k _ h => h.elim id fun h => Nat.le_trans hs2 h
            refine ⟨⟨1, A8, c8, _, rfl, by omega, rfl, o9, b7.fr f8 hbx, ?_, top, fun h => by omega⟩, by dsimp only; omega⟩
            exact f26.trans f8 fun k hk h => by have := hA k h; omega
          · rw [h] at hb
            have e1 : bey1 x last cc = [] := if_neg (of_decide_eq_false hb.symm)
            rw [e1, List.append_nil] at et
            rw [IntWalk.i64_in _ (by omega), ← et]
            rw [← et] at o7
            exact ⟨⟨1, A5, c5, _, rfl, by omega, rfl, o7, b7, f26, f06, fun h => by omega⟩, by dsimp only; omega⟩
        refine ⟨_, by rw [add_g]; exact b7.cell 1, _, b6.cell 0, _, by rw [add_g]; exact b7.cell 2, ?_⟩
        show cond (decide ((if (0 : Int) > IntKind.i64.wrap (x.fr + 1) then (0 : Int) else IntKind.i64.wrap (x.fr + 1)) ≤ x.to)) _ _
        rw [ew, emx]
        refine cD (fun h1 => ⟨_, b6.cell 1, cD (fun h2 => ⟨_, rfl, _, by rw [add_g]; exact hb6.cell 6, k7 _ ?_⟩) (fun h2 => k7 _ ?_)⟩) (fun h1 => k7 _ ?_)
        · rw [decide_eq_decide]; unfold beyC; omega
        · rw [decide_eq_false]; unfold beyC; omega
        · rw [decide_eq_false]; unfold beyC; omega
      · have e1 : i = 1 := by omega
        subst e1
        rw [if_neg (by decide)] at hL
        subst hL
        rw [IntWalk.i64_in _ (by omega)]
        exact ⟨⟨j + 1, A5, c5, rfl, by omega, o5, b5, f25, f05⟩, by dsimp only; omega⟩
    · have e : j = (nearF f x.c).length := by omega
      subst e
      rw [List.take_length] at o ⊢
      exact ⟨A, c, rfl, o.mono fun k _ h => Nat.le_trans f2.size h, f3⟩
  obtain ⟨qA, qc, lA, lc, hb1⟩ := S1.blk
  obtain ⟨lA', lc', cl, la, hla, cla⟩ := S1.lane hx
  refine ⟨_, rfl, _, b1c, _, by rw [add_g]; exact hb1.cell 4, cN (fun hne => ?_) (fun he => ?_)⟩
  · refine ⟨_, rfl, lA', _, lc', by rw [add_g]; exact cl, _, b1c, la, hla, hx.1, hx.2, _, cla, ?_⟩
    cases hl : isF f x.c 2 with
    | false =>
      have : beyF f from_ last x = [] := if_pos ⟨hne, hl⟩
      rw [this]
      exact cT rfl ⟨none, 0, rfl, Own.nil _ _ _ _, f0⟩
    | true => exact k1 f0 b1 (if_neg fun h => by rw [hl] at h; exact absurd h.2 (by decide))
  · exact k1 f0 b1 (if_neg fun h => h.1 he)
end
end Go.Proofs
