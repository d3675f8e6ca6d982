/- The reference's check sum, frames and scans: contracts. -/
import Derived.Test.YthjekadmkconnaaCkC16
set_option linter.unusedVariables false
namespace Go.Proofs
open Go Go.Eng
theorem msb_nat (q : W16) : (IntKind.u16.wrap (Int.tdiv (q.toNat : Int) 32768) = 1) ↔ q.msb = true := by
  have h := q.isLt
  rw [Int.tdiv_eq_ediv_of_nonneg (by omega), IntWalk.u16_in _ (by omega), BitVec.msb_eq_decide, decide_eq_true_eq]
  omega
theorem dbl_nat (q : W16) : IntKind.u16.wrap ((q.toNat : Int) * 2) = ((q <<< 1).toNat : Int) := by
  rw [show (q.toNat : Int) * 2 = ((q.toNat * 2 : Nat) : Int) by omega, wrap16, BitVec.toNat_shiftLeft, Nat.shiftLeft_eq]
section
variable {w : World} {ok : Nat → Prop} {A : Option Addr} {c : Nat} {xs : Bs}
theorem fsum_ok (h : Rd w ok A (bvs xs)) (hm : xs.length ≤ 1000000) : Ret Try.prog 46 [.slice A xs.length c] w fun v w' => v = .int .u16 ((csum xs).toNat : Int) ∧ w' = w := by
  apply S46_calls
  refine ⟨fun s w' => w' = w ∧ ∃ i : Nat, s.2.1 = (i : Int) ∧ i ≤ xs.length ∧ s.1 = ((csum (xs.take i)).toNat : Int), fun s _ => xs.length - s.2.1.toNat, ⟨rfl, 0, rfl, Nat.zero_le _, rfl⟩, ?_⟩
  rintro J ⟨r, i', ⟨⟩⟩ w1 ⟨rfl, i, hi, hle, hr⟩
  dsimp only at hi hr ⊢
  subst hi hr
  refine cD (fun hlt => ?_) (fun hlt => ?_)
  · have hx : xs[i]? = some xs[i] := List.getElem?_eq_getElem (by omega)
    obtain ⟨a, rfl, _, cx⟩ := h.at (bvs_get hx)
    have et : csum (xs.take (i + 1)) = it 8 (csum (xs.take i) ^^^ (xs[i].toBitVec.setWidth 16 <<< 8)) := by
      rw [List.take_add_one, hx]
      unfold csum
      rw [crc_append]; rfl
    have e1 : bitsI .xor .u16 ((csum (xs.take i)).toNat : Int) (IntKind.u16.wrap ((IntKind.u16.wrap (xs[i].toNat : Int)) * 256)) = (((csum (xs.take i)) ^^^ (xs[i].toBitVec.setWidth 16 <<< 8)).toNat : Int) := by
      have e2 : IntKind.u16.wrap ((IntKind.u16.wrap (xs[i].toNat : Int)) * 256) = ((xs[i].toBitVec.setWidth 16 <<< 8).toNat : Int) := by
        rw [u8bv, wide8]
        exact shl16 (xs[i].toBitVec.setWidth 16) 8 (by decide)
      rw [e2, xor16]
    generalize csum (xs.take i) = q at et e1 ⊢
    generalize hq0 : q ^^^ (xs[i].toBitVec.setWidth 16 <<< 8) = q0 at et e1
    refine ⟨_, rfl, by omega, by omega, _, by rw [Int.toNat_natCast, Nat.mul_one]; exact cx, ?_⟩
    refine ⟨fun s w' => w' = w1 ∧ ∃ j : Nat, s.2.1 = (j : Int) ∧ j ≤ 8 ∧ s.1 = ((it j q0).toNat : Int), fun s _ => 8 - s.2.1.toNat, ⟨rfl, 0, rfl, by decide, e1⟩, ?_⟩
    rintro J ⟨r, k', ⟨⟩⟩ w2 ⟨rfl, j, hk, hj, hr⟩
    dsimp only at hk hr ⊢
    subst hk hr
    refine cD (fun hlt2 => ?_) (fun hlt2 => ?_)
    · refine ⟨by decide, ?_⟩
      rw [dbl_nat, IntWalk.i64_in ((j : Int) + 1) (by omega)]
      have es : it (j + 1) q0 = cf (it j q0) := it_succ j q0
      refine cD (fun hm => ?_) (fun hm => ?_)
      · rw [msb_nat] at hm
        have e41 : bitsI .xor .u16 ((it j q0 <<< 1).toNat : Int) 4129 = ((it j q0 <<< 1 ^^^ 0x1021#16).toNat : Int) := xor16 (it j q0 <<< 1) 0x1021#16
        rw [e41]
        refine ⟨⟨rfl, j + 1, rfl, by omega, ?_⟩, by dsimp only; omega⟩
        rw [es]; unfold cf; rw [hm]; rfl
      · rw [msb_nat] at hm
        refine ⟨⟨rfl, j + 1, rfl, by omega, ?_⟩, by dsimp only; omega⟩
        have hm' : (it j q0).msb = false := by simpa using hm
        rw [es]; unfold cf; rw [hm']; simp
    · have : j = 8 := by omega
      subst this
      rw [IntWalk.i64_in ((i : Int) + 1) (by omega)]
      exact ⟨⟨rfl, i + 1, rfl, by omega, by rw [et]⟩, by dsimp only; omega⟩
  · have : i = xs.length := by omega
    subst this
    rw [List.take_length]
    exact ⟨rfl, rfl⟩
theorem ftwo_ok {n : Nat} (hn : n < 2 ^ 16) (w : World) : Ret Try.prog 45 [.int .i64 (n : Int)] w fun v w' => ∃ A c, v = .slice A (wd n).length c ∧ Own w' 5 1 (bw w.heap.size w') A (wd n).length c (bvs (wd n)) ∧ Fr none1 w w' := by
  apply S45_calls
  unfold S45
  rw [IntWalk.u64_in (n : Int) (by omega)]
  refine (fbits_ok (n := n) (m := 16) (by omega) (by decide) w).use ?_
  rintro v w1 ⟨A1, c1, rfl, o1, f1⟩
  refine ⟨_, _, _, rfl, ?_⟩
  have hb := fbytes_ok (cl := c1) o1.rd (by rw [nb_length]; decide)
  rw [nb_length] at hb
  refine hb.use ?_
  rintro v w2 ⟨A2, c2, rfl, o2, f2⟩
  exact ⟨_, _, _, rfl, A2, c2, rfl, o2.mono fun k hk h => ⟨Nat.le_trans f1.size h.1, h.2⟩, f1.trans' f2⟩
theorem fframe_ok (h : Rd w ok A (bvs xs)) (hm : xs.length ≤ 9000000000000000000) : Ret Try.prog 38 [.slice A xs.length c] w fun v w' => ∃ A' c', v = .tuple ⟨[.slice A' (frV xs).1.length c', .int .i64 (frV xs).2]⟩ ∧ Own w' 5 1 (bw w.heap.size w') A' (frV xs).1.length c' (bvs (frV xs).1) ∧ Fr none1 w w' := by
  apply S38_calls
  refine cD (fun hlt => ?_) (fun hlt => ?_)
  · have e : frV xs = ([], 4) := if_neg (by omega)
    rw [e]
    exact ⟨none, 0, rfl, Own.nil _ _ _ _, Fr.refl _ _⟩
  · have hl : xs.length ≤ 1000 := by omega
    rw [frV_ok hl]
    refine (ftwo_ok (n := xs.length) (by omega) w).use ?_
    rintro v w3 ⟨A3, c3, rfl, o3, f3⟩
    refine ⟨_, _, _, rfl, ?_⟩
    have hwl := wd_length xs.length
    obtain ⟨A4, c4, w4, r4, o4, f4, g4⟩ := appB (ty := 30) (m := xs.length) (c2 := c) Eby o3 f3.size (by rw [bvs_length]; omega) (h.new f3.bel0) (bvs_one _) (by omega) (by simp only [maxLen]; omega)
    have eh : bvs (wd xs.length) ++ bvs xs = bvs (headed xs) := by unfold headed bvs; rw [List.map_append]
    have hl4 : (wd xs.length).length + xs.length = (headed xs).length := by unfold headed; rw [List.length_append]
    rw [eh, hl4] at o4
    rw [hl4] at r4
    refine ⟨_, _, _, w4, r4, ?_⟩
    have g4' : Bel w.heap.size w w4 := f3.bel0.trans' g4
    have hhl := headed_length xs
    refine (fsum_ok (c := c4) o4.rd (by omega)).use ?_
    rintro v w4 ⟨rfl, rfl⟩
    refine ⟨_, rfl, ?_⟩
    have hs := (csum (headed xs)).isLt
    rw [IntWalk.i64_in ((csum (headed xs)).toNat : Int) (by omega)]
    refine (ftwo_ok (n := (csum (headed xs)).toNat) hs w4).use ?_
    rintro v w7 ⟨A7, c7, rfl, o7, f7⟩
    refine ⟨_, _, _, rfl, ?_⟩
    have o8 := ownB o4 f7
    have hwl2 := wd_length (csum (headed xs)).toNat
    have g7 := g4'.trans' f7.bel0
    obtain ⟨A9, c9, w9, r9, o9, f9, g9⟩ := appB (ty := 30) (m := (wd (csum (headed xs)).toNat).length) (c2 := c7) Eby o8 g7.size (by rw [bvs_length]; omega) o7.rd (bvs_one _) (by omega) (by simp only [maxLen]; omega)
    have ef : bvs (headed xs) ++ bvs (wd (csum (headed xs)).toNat) = bvs (framed xs) := by unfold framed bvs; rw [List.map_append]
    have hl9 : (headed xs).length + (wd (csum (headed xs)).toNat).length = (framed xs).length := by unfold framed; rw [List.length_append]
    rw [ef, hl9] at o9
    rw [hl9] at r9
    exact ⟨_, _, _, w9, r9, A9, c9, rfl, o9, (g7.trans' g9).top⟩
theorem openB_eq (xs : Bs) (h4 : 4 ≤ xs.length) : openB xs = if (inner xs xs.length).length ≤ 1000 ∧ framed (inner xs xs.length) = xs then some (inner xs xs.length) else none := by
  split
  · rename_i h
    exact openB_some.2 ⟨h.1, h.2.symm⟩
  · rename_i h
    cases e : openB xs with
    | none => rfl
    | some ys =>
      obtain ⟨h1, h2⟩ := openB_some.1 e
      have e1 : inner xs xs.length = ys := by
        have := inner_frame (ys := ys) (rest := [])
        rw [List.append_nil, ← framed_length, ← h2] at this
        exact this
      exact absurd (by rw [e1]; exact ⟨h1, h2.symm⟩) h
theorem fopen_ok (h : Rd w ok A (bvs xs)) (hc : xs.length ≤ c) (hm : xs.length ≤ 1000000) : Ret Try.prog 44 [.slice A xs.length c] w fun v w' => ∃ A' c', v = .tuple ⟨[.slice A' ((openB xs).getD []).length c', .bool (openB xs).isSome]⟩ ∧ ((openB xs).getD []).length ≤ c' ∧ Rd w' ok A' (bvs ((openB xs).getD [])) ∧ Fr none1 w w' := by
  apply S44_calls
  refine cD (fun hlt => ?_) (fun hlt => ?_)
  · have e : openB xs = none := by unfold openB; rw [if_pos (.inl (by unfold sizeB; rw [if_pos (by omega)]))]
    rw [e]
    exact ⟨none, 0, rfl, Nat.le_refl _, Rd.nil _ _ _, Fr.refl _ _⟩
  · have hoe := openB_eq xs (by omega)
    unfold S44_k0
    rw [IntWalk.i64_in ((xs.length : Int) - 2) (by omega), show ((xs.length : Nat) : Int) - 2 = ((xs.length - 2 : Nat) : Int) by omega, Int.toNat_natCast, show Int.toNat 2 = 2 from rfl]
    have hin : (inner xs xs.length).length = xs.length - 2 - 2 := by unfold inner; rw [List.length_drop, List.length_take]; omega
    have hr : Rd w ok (slAddr A c 2 1) (bvs (inner xs xs.length)) := Rd.sub h (m := c) (lo := 2) (hi := xs.length - 2) (by rw [List.length_take]; omega)
    have hf := fframe_ok (c := c - 2) hr (by omega)
    rw [hin] at hf
    generalize hb : inner xs xs.length = b at *
    have no : ∀ w', Fr none1 w w' → ¬ (b.length ≤ 1000 ∧ framed b = xs) → ∃ A' c', Value.tuple ⟨[.slice none 0 0, .bool false]⟩ = .tuple ⟨[.slice A' ((openB xs).getD []).length c', .bool (openB xs).isSome]⟩ ∧ ((openB xs).getD []).length ≤ c' ∧ Rd w' ok A' (bvs ((openB xs).getD [])) ∧ Fr none1 w w' := fun w' f hn => by
      rw [hoe, if_neg hn]
      exact ⟨none, 0, rfl, Nat.le_refl _, Rd.nil _ _ _, f⟩
    refine ⟨by omega, by omega, by decide, by omega, ?_⟩
    refine hf.use ?_
    rintro v w1 ⟨A1, c1, rfl, o1, f1⟩
    refine ⟨_, _, _, _, rfl, ?_⟩
    by_cases hl : b.length ≤ 1000
    · rw [frV_ok hl] at o1 ⊢
      refine cF rfl ⟨_, w1, run_toString Uby Uu8 Ustr rfl o1.rd, _, w1, run_toString Uby Uu8 Ustr rfl (h.new f1.bel0), ?_⟩
      refine cN (fun hne => no w1 f1 fun hh => hne (by rw [hh.2])) (fun he => ?_)
      rw [str_inj] at he
      rw [hoe, if_pos ⟨hl, he⟩]
      exact ⟨_, c - 2, by rw [Option.getD_some, hin]; rfl, by rw [Option.getD_some]; omega, by rw [Option.getD_some]; exact hr.new f1.bel0, f1⟩
    · have e : frV b = ([], 4) := if_neg hl
      rw [e]
      exact cT rfl (cT rfl (no w1 f1 fun hh => hl hh.1))
theorem w2_two (a b : UInt8) : w2 [a, b] = 256 * a.toNat + b.toNat := by
  unfold w2
  have e : up8 [a, b] = by8 a ++ by8 b := by simp [up8]
  rw [e, vl_append, by8_length]
  unfold by8
  have ha := a.toNat_lt
  have hb := b.toNat_lt
  rw [vl_nb, vl_nb, Nat.mod_eq_of_lt (by omega), Nat.mod_eq_of_lt (by omega)]
  omega
/-- A scan's step, as the reference takes it. -/
theorem ref_step {t : Bs} (h4 : 4 ≤ t.length) (hn : w2 (t.take 2) + 4 ≤ t.length) : (openB (t.take (w2 (t.take 2) + 4)) = none ∧ sizeB t = 0) ∨ (openB (t.take (w2 (t.take 2) + 4)) = some (inner t (sizeB t)) ∧ sizeB t = w2 (t.take 2) + 4) := by
  by_cases hz : sizeB t = 0
  · left
    refine ⟨?_, hz⟩
    cases e : openB (t.take (w2 (t.take 2) + 4)) with
    | none => rfl
    | some ys =>
      obtain ⟨h1, h2⟩ := openB_some.1 e
      have e2 : t = framed ys ++ t.drop (w2 (t.take 2) + 4) := by rw [← h2, List.take_append_drop]
      have e3 := sizeB_frame h1 (t.drop (w2 (t.take 2) + 4))
      rw [← e2] at e3
      omega
  · right
    have hs : sizeB t = w2 (t.take 2) + 4 := by
      have hz' := hz
      unfold sizeB at hz' ⊢
      rw [if_neg (by omega)] at hz' ⊢
      split at hz'
      · exact absurd rfl hz'
      · rename_i h1
        rw [if_neg h1]
        split at hz'
        · rename_i h2; rw [if_pos h2]
        · exact absurd rfl hz'
    obtain ⟨ys, y1, y2, y3, y4, y5⟩ := sizeB_some hz
    refine ⟨?_, hs⟩
    rw [openB_some]
    rw [y4]
    refine ⟨y1, ?_⟩
    rw [← hs, y2]
    have e := congrArg (List.take (ys.length + 4)) y3
    rw [List.take_append_of_le_length (by rw [framed_length]; exact Nat.le_refl _), List.take_of_length_le (l := framed ys) (by rw [framed_length]; exact Nat.le_refl _)] at e
    exact e
theorem fscan_ok (h : Rd w ok A (bvs xs)) (hc : xs.length ≤ c) (hm : xs.length ≤ 1000000) : Ret Try.prog 36 [.slice A xs.length c] w fun v w' => ∃ A' c', v = .tuple ⟨[.slice A' (scanB xs).1.length c', .int .i64 ((scanB xs).2 : Int)]⟩ ∧ Rows w.heap.size (fun k => k < w.heap.size) w' A' c' (scanB xs).1 ∧ Fr none1 w w' := by
  replace h := h.mono (ok' := fun k => k < w.heap.size) fun k hk _ => hk
  apply S36_calls
  refine ⟨fun s w' => ∃ (q : Nat) (out : List Bs), q ≤ xs.length ∧ s.2.1 = (q : Int) ∧ s.1.2.1 = out.length ∧ Rows w.heap.size (fun k => k < w.heap.size) w' s.1.1 s.1.2.2 out ∧
      out ++ (scanB (xs.drop q)).1 = (scanB xs).1 ∧ q + (scanB (xs.drop q)).2 = (scanB xs).2 ∧ out.length ≤ q ∧ Bel w.heap.size w w', fun s _ => xs.length - s.2.1.toNat,
    ⟨0, [], Nat.zero_le _, rfl, rfl, Rows.nil _ _ _, by simp, by simp, Nat.le_refl _, Fr.refl _ _⟩, ?_⟩
  rintro J ⟨⟨A1, l1, c1⟩, q', ⟨⟩⟩ wa ⟨q, out, hq, hq', hl1, o2, e1, e2, hoq, g2⟩
  dsimp only at hq' hl1 o2 ⊢
  subst hq' hl1
  have hdl : (xs.drop q).length = xs.length - q := List.length_drop
  have stop : ∀ w5, sizeB (xs.drop q) = 0 → Fr none1 wa w5 → S36_k3 A1 out.length c1 (q : Int) w5 (fun v w' => ∃ A' c', v = .tuple ⟨[.slice A' (scanB xs).1.length c', .int .i64 ((scanB xs).2 : Int)]⟩ ∧ Rows w.heap.size (fun k => k < w.heap.size) w' A' c' (scanB xs).1 ∧ Fr none1 w w') := by
    intro w5 hz f5
    rw [scanB_zero hz] at e1 e2
    simp only [List.append_nil, Nat.add_zero] at e1 e2
    subst e1
    exact ⟨A1, c1, by rw [← e2], o2.fr0 f5, (g2.trans' f5.bel0).top⟩
  refine cD (fun h4 => ?_) (fun h4 => ?_)
  · rw [IntWalk.i64_in _ (by omega)] at h4
    have fd : Fr none1 wa wa.drew := Fr.drew wa
    have g3 := g2.trans' fd.bel0
    have o3 := o2.fr0 fd
    have rd := h.new g3
    have hx0 : xs[q]? = some xs[q] := List.getElem?_eq_getElem (by omega)
    have hx1 : xs[q + 1]? = some xs[q + 1] := List.getElem?_eq_getElem (by omega)
    have ht2 : (xs.drop q).take 2 = [xs[q], xs[q + 1]] := by
      rw [List.drop_eq_getElem_cons (by omega), List.take_succ_cons, List.drop_eq_getElem_cons (by omega), List.take_succ_cons]
      rfl
    have hw2 : w2 ((xs.drop q).take 2) = 256 * xs[q].toNat + xs[q + 1].toNat := by rw [ht2, w2_two]
    have b0 := xs[q].toNat_lt
    have b1 := xs[q + 1].toNat_lt
    obtain ⟨a0, ha0, _, cx0⟩ := rd.at (bvs_get hx0)
    obtain ⟨a1, ha1, _, cx1⟩ := rd.at (bvs_get hx1)
    have hstep := ref_step (t := xs.drop q) (by omega)
    have hk2 : S36_k2 A xs.length c A1 out.length c1 (q : Int) (IntKind.i64.wrap ((IntKind.i64.wrap ((IntKind.i64.wrap (256 * (IntKind.i64.wrap (xs[q].toNat : Int)))) + (IntKind.i64.wrap (xs[q + 1].toNat : Int)))) + 4)) wa.drew (fun v w' => ∃ A' c', v = .tuple ⟨[.slice A' (scanB xs).1.length c', .int .i64 ((scanB xs).2 : Int)]⟩ ∧ Rows w.heap.size (fun k => k < w.heap.size) w' A' c' (scanB xs).1 ∧ Fr none1 w w')
        (fun s' w'' => (∃ (q : Nat) (out : List Bs), q ≤ xs.length ∧ s'.2.1 = (q : Int) ∧ s'.1.2.1 = out.length ∧ Rows w.heap.size (fun k => k < w.heap.size) w'' s'.1.1 s'.1.2.2 out ∧
      out ++ (scanB (xs.drop q)).1 = (scanB xs).1 ∧ q + (scanB (xs.drop q)).2 = (scanB xs).2 ∧ out.length ≤ q ∧ Bel w.heap.size w w'') ∧ xs.length - s'.2.1.toNat < xs.length - (q : Int).toNat) := by
      rw [IntWalk.i64_in (xs[q].toNat : Int) (by omega), IntWalk.i64_in (xs[q + 1].toNat : Int) (by omega), IntWalk.i64_in (256 * (xs[q].toNat : Int)) (by omega), IntWalk.i64_in (256 * (xs[q].toNat : Int) + (xs[q + 1].toNat : Int)) (by omega), IntWalk.i64_in _ (by omega)]
      have en : 256 * (xs[q].toNat : Int) + (xs[q + 1].toNat : Int) + 4 = ((w2 ((xs.drop q).take 2) + 4 : Nat) : Int) := by rw [hw2]; omega
      rw [en]
      generalize hnn : w2 ((xs.drop q).take 2) + 4 = n at hstep ⊢
      have hn4 : 4 ≤ n := by omega
      generalize wa.drew = w3 at fd g3 o3 rd ⊢
      unfold S36_k2
      rw [IntWalk.i64_in ((xs.length : Int) - (q : Int)) (by omega)]
      refine cD (fun hgt => stop w3 ?_ fd) (fun hgt => ?_)
      · unfold sizeB
        rw [if_neg (by omega), if_pos (.inl (by omega))]
      · unfold S36_k4
        rw [IntWalk.i64_in ((q : Int) + (n : Int)) (by omega), show (q : Int) + (n : Int) = ((q + n : Nat) : Int) by omega, Int.toNat_natCast, Int.toNat_natCast]
        have htn : ((xs.take (q + n)).drop q) = (xs.drop q).take n := by rw [List.drop_take, Nat.add_sub_cancel_left]
        have hrd : Rd w3 (fun k => k < w.heap.size) (slAddr A c q 1) (bvs ((xs.drop q).take n)) := by
          have := Rd.sub rd (m := c) (lo := q) (hi := q + n) (by rw [List.length_take]; omega)
          rwa [htn] at this
        have htl : ((xs.drop q).take n).length = n := by rw [List.length_take]; omega
        have ho := fopen_ok (c := c - q) hrd (by omega) (by omega)
        rw [htl] at ho
        rw [Nat.add_sub_cancel_left]
        refine ⟨by omega, by omega, by omega, by omega, ?_⟩
        refine ho.use ?_
        rintro v w4 ⟨A4, c4, rfl, hc4, r4, f4⟩
        refine ⟨_, _, _, _, rfl, ?_⟩
        rcases hstep (by omega) with ⟨s1, s2⟩ | ⟨s1, s2⟩
        · rw [s1]
          exact cT rfl (stop w4 s2 (fd.trans' f4))
        · rw [s1, Option.getD_some] at r4 hc4 ⊢
          refine cF rfl ?_
          have estep := scanB_step (xs := xs.drop q) (by omega)
          rw [s2, List.drop_drop] at estep
          rw [s2] at r4 hc4 ⊢
          rw [estep] at e1 e2
          have g4 := g3.trans' f4.bel0
          have hws := g4.size
          have hA1w : ∀ k, ownAt A1 k → w.heap.size ≤ k := by
            obtain ⟨o1, _, _, k1, _, _, s1, _⟩ := o2
            rintro k ⟨a, ha, rfl⟩
            exact s1 _ (k1.has a ha).1
          obtain ⟨A5, c5, w5, r5, o5, f5⟩ := (o3.fr0 f4).snoc hws r4 hc4 (fun a ha h => by have := hA1w a.block ⟨a, ha, rfl⟩; omega) (fun k _ h => h) (by omega)
          refine ⟨A5, _, c5, w5, r5, ?_⟩
          rw [IntWalk.i64_in ((q : Int) + (n : Int)) (by omega)]
          refine ⟨⟨q + n, out ++ [inner (xs.drop q) n], by omega, by dsimp only; omega, by simp, o5, ?_, ?_, ?_, g4.trans' (f5.bel hA1w)⟩, by dsimp only; omega⟩
          · rw [← e1]; simp
          · rw [← e2]; dsimp only; omega
          · simp only [List.length_append, List.length_singleton]; omega
    have eq1 : IntKind.i64.wrap ((q : Int) + 1) = ((q + 1 : Nat) : Int) := by rw [IntWalk.i64_in _ (by omega)]; omega
    refine ⟨a0, ha0, by omega, by omega, a1, ha1, by rw [eq1]; omega, by rw [eq1]; omega, ?_, ?_⟩
    · exact ⟨_, by rw [Int.toNat_natCast, Nat.mul_one]; exact cx0, _, by rw [eq1, Int.toNat_natCast, Nat.mul_one]; exact cx1, hk2⟩
    · exact ⟨_, by rw [eq1, Int.toNat_natCast, Nat.mul_one]; exact cx1, _, by rw [Int.toNat_natCast, Nat.mul_one]; exact cx0, hk2⟩
  · rw [IntWalk.i64_in _ (by omega)] at h4
    refine stop wa ?_ (Fr.refl _ _)
    unfold sizeB
    rw [if_pos (by omega)]
end
/-- Rows of rows of bytes, to be read. -/
def RS (w : World) (A : Option Addr) (xss : List Bs) : Prop := ∃ vs, Rd w (fun _ => True) A vs ∧ Bss w (fun _ => True) vs xss
theorem Rows.rs {B : Nat} {X : Nat → Prop} {w : World} {A : Option Addr} {c : Nat} {xss : List Bs} (h : Rows B X w A c xss) : RS w A xss := by
  obtain ⟨o1, o2, vs, h1, h2, _⟩ := h
  exact ⟨vs, h1.rd.mono fun _ _ _ => trivial, h2.mono fun _ _ _ => trivial⟩
theorem RS.fr0 {w w' : World} {A : Option Addr} {xss : List Bs} (h : RS w A xss) (f : Fr none1 w w') : RS w' A xss := by
  obtain ⟨vs, h1, h2⟩ := h
  exact ⟨vs, h1.fr f fun _ _ _ h => h, h2.fr f fun _ _ _ h => h⟩
theorem RS.at {w : World} {A : Option Addr} {xss : List Bs} (h : RS w A xss) {i : Nat} {ys : Bs} (hi : xss[i]? = some ys) : ∃ a B c, A = some a ∧ w.cell? (a.add (Int.toNat (i : Int) * 1)) = some (.slice B ys.length c) ∧ Rd w (fun _ => True) B (bvs ys) := by
  obtain ⟨vs, h1, h2⟩ := h
  obtain ⟨B, c, k1, _, k2⟩ := h2.2 i ys hi
  obtain ⟨a, rfl, _, hc⟩ := h1.at k1
  exact ⟨a, B, c, rfl, by rw [Int.toNat_natCast, Nat.mul_one]; exact hc, k2⟩
theorem same_ok {w : World} {A1 A2 : Option Addr} {c1 c2 : Nat} {xss yss : List Bs} (h1 : RS w A1 xss) (h2 : RS w A2 yss) (hm : xss.length ≤ maxLen) :
    Ret Try.prog 14 [.slice A1 xss.length c1, .slice A2 yss.length c2] w fun v w' => v = .bool (decide (xss = yss)) ∧ Fr none1 w w' := by
  simp only [maxLen] at hm
  apply S14_calls
  refine cN (fun hne => ?_) (fun he => ?_)
  · refine ⟨?_, Fr.refl _ _⟩
    rw [decide_eq_false]
    intro e; subst e; exact hne rfl
  · have hl : xss.length = yss.length := by omega
    refine ⟨fun s w' => ∃ n : Nat, s.1 = (n : Int) ∧ n ≤ xss.length ∧ xss.take n = yss.take n ∧ Fr none1 w w', fun s _ => xss.length - s.1.toNat, ⟨0, rfl, Nat.zero_le _, rfl, Fr.refl _ _⟩, ?_⟩
    rintro J ⟨i, ⟨⟩⟩ w1 ⟨n, hi, hn, ht, f1⟩
    dsimp only at hi ⊢
    subst hi
    refine cD (fun hlt => ?_) (fun hlt => ?_)
    · have f2 := f1.trans' (Fr.drew w1)
      have ex : xss[n]? = some xss[n] := List.getElem?_eq_getElem (by omega)
      have ey : yss[n]? = some (yss[n]'(by omega)) := List.getElem?_eq_getElem (by omega)
      obtain ⟨a1, B1, d1, rfl, q1, k1⟩ := (h1.fr0 f2).at ex
      obtain ⟨a2, B2, d2, rfl, q2, k2⟩ := (h2.fr0 f2).at ey
      have s1 := run_toString (P := Try.prog) (c := d1) Uby Uu8 Ustr rfl k1
      have s2 := run_toString (P := Try.prog) (c := d2) Uby Uu8 Ustr rfl k2
      generalize hw2 : w1.drew = w2 at f2 q1 q2 k1 k2 s1 s2
      have fin : S14_k3 (some a1) xss.length c1 (some a2) yss.length c2 (n : Int) (!decide (str xss[n] = str (yss[n]'(by omega)))) w2 (fun v w' => v = .bool (decide (xss = yss)) ∧ Fr none1 w w')
          (fun s' w'' => (∃ n : Nat, s'.1 = (n : Int) ∧ n ≤ xss.length ∧ xss.take n = yss.take n ∧ Fr none1 w w'') ∧ xss.length - s'.1.toNat < xss.length - (n : Int).toNat) := by
        refine cN (fun hne => ?_) (fun he => ?_)
        · refine ⟨?_, f2⟩
          rw [decide_eq_false]
          intro e; subst e; exact hne rfl
        · rw [str_inj] at he
          rw [IntWalk.i64_in ((n : Int) + 1) (by omega)]
          refine ⟨⟨n + 1, rfl, by omega, ?_, f2⟩, by dsimp only; omega⟩
          rw [List.take_add_one, List.take_add_one, ht, ex, ey, he]
      have b1 : (0 : Int) ≤ (n : Int) := by omega
      have b2 : (n : Int) < ((xss.length : Nat) : Int) := by omega
      have b3 : (n : Int) < ((yss.length : Nat) : Int) := by omega
      unfold S14_k2
      rw [hw2]
      refine ⟨_, rfl, b1, b2, _, rfl, b1, b3, ⟨_, _, _, q1, ?_, ?_⟩, ⟨_, _, _, q2, ?_, ?_⟩⟩
      · exact ⟨_, w2, s1, _, _, _, q2, _, w2, s2, fin⟩
      · exact ⟨_, _, _, q2, ⟨_, w2, s1, _, w2, s2, fin⟩, ⟨_, w2, s2, _, w2, s1, fin⟩⟩
      · exact ⟨_, _, _, q1, ⟨_, w2, s1, _, w2, s2, fin⟩, ⟨_, w2, s2, _, w2, s1, fin⟩⟩
      · exact ⟨_, w2, s2, _, _, _, q1, _, w2, s1, fin⟩
    · have : n = xss.length := by omega
      subst this
      rw [List.take_length, hl, List.take_length] at ht
      exact ⟨by rw [decide_eq_true ht], f1⟩
end Go.Proofs
