/- The check sum, frames, and scans: contracts. -/
import Derived.Test.YtmhjjhpgbafjpaaBitVtop
import Derived.Test.YtmhjjhpgbafjpaaCkF
set_option linter.unusedVariables false
namespace Go.Proofs
open Go Go.Eng
theorem wrap16 (n : Nat) : IntKind.u16.wrap (n : Int) = ((n % 65536 : Nat) : Int) := by
  rw [IntKind.wrap_u16]; omega
theorem wrap8 (n : Nat) : IntKind.u8.wrap (n : Int) = ((n % 256 : Nat) : Int) := by
  rw [IntKind.wrap_u8]; omega
theorem xor16 (x y : W16) : bitsI .xor .u16 (x.toNat : Int) (y.toNat : Int) = ((x ^^^ y).toNat : Int) := by
  have e : (BitVec.ofInt 16 (x.toNat : Int) ^^^ BitVec.ofInt 16 (y.toNat : Int)).toNat = (x ^^^ y).toNat := by
    rw [BitVec.ofInt_natCast, BitVec.ofInt_natCast]; simp
  show IntKind.u16.wrap ((BitVec.ofInt 16 (x.toNat : Int) ^^^ BitVec.ofInt 16 (y.toNat : Int)).toNat : Int) = _
  rw [e, wrap16, Nat.mod_eq_of_lt (x ^^^ y).isLt]
theorem xor8 (x y : BitVec 8) : bitsI .xor .u8 (x.toNat : Int) (y.toNat : Int) = ((x ^^^ y).toNat : Int) := by
  have e : (BitVec.ofInt 8 (x.toNat : Int) ^^^ BitVec.ofInt 8 (y.toNat : Int)).toNat = (x ^^^ y).toNat := by
    rw [BitVec.ofInt_natCast, BitVec.ofInt_natCast]; simp
  show IntKind.u8.wrap ((BitVec.ofInt 8 (x.toNat : Int) ^^^ BitVec.ofInt 8 (y.toNat : Int)).toNat : Int) = _
  rw [e, wrap8, Nat.mod_eq_of_lt (x ^^^ y).isLt]
theorem shl16 (x : W16) (k : Nat) (hk : k ≤ 16) : IntKind.u16.wrap ((x.toNat : Int) * 2 ^ (min (Int.toNat (k : Int)) (IntKind.u16.bits))) = ((x <<< k).toNat : Int) := by
  rw [Int.toNat_natCast, Nat.min_eq_left (by simpa [IntKind.bits] using hk), show (x.toNat : Int) * 2 ^ k = ((x.toNat * 2 ^ k : Nat) : Int) by simp, wrap16, BitVec.toNat_shiftLeft, Nat.shiftLeft_eq]
theorem shr16 (x : W16) (k : Nat) (hk : k ≤ 16) : Int.fdiv (x.toNat : Int) (2 ^ (min (Int.toNat (k : Int)) (IntKind.u16.bits))) = ((x >>> k).toNat : Int) := by
  rw [shr_nat, Nat.min_eq_left (by simpa [IntKind.bits] using hk), BitVec.toNat_ushiftRight, Nat.shiftRight_eq_div_pow]
theorem shr8 (x : BitVec 8) (k : Nat) (hk : k ≤ 8) : Int.fdiv (x.toNat : Int) (2 ^ (min (Int.toNat (k : Int)) (IntKind.u8.bits))) = ((x >>> k).toNat : Int) := by
  rw [shr_nat, Nat.min_eq_left (by simpa [IntKind.bits] using hk), BitVec.toNat_ushiftRight, Nat.shiftRight_eq_div_pow]
theorem cut8 (x : W16) : IntKind.u8.wrap (x.toNat : Int) = ((x.setWidth 8).toNat : Int) := by rw [wrap8, BitVec.toNat_setWidth]
theorem wide8 (x : BitVec 8) : IntKind.u16.wrap (x.toNat : Int) = ((x.setWidth 16).toNat : Int) := by
  rw [wrap16, BitVec.toNat_setWidth]
theorem u8bv (b : UInt8) : (b.toNat : Int) = (b.toBitVec.toNat : Int) := rfl
section
variable {w : World} {ok : Nat → Prop} {A : Option Addr} {c : Nat} {xs : Bs}
theorem sum_ok (h : Rd w ok A (bvs xs)) (hm : xs.length ≤ 1000000) : Ret Try.prog 67 [.slice A xs.length c] w fun v w' => v = .int .u16 ((csum xs).toNat : Int) ∧ w' = w := by
  apply S67_calls
  refine ⟨fun s w' => w' = w ∧ ∃ i : Nat, s.2.1 = (i : Int) ∧ i ≤ xs.length ∧ s.1 = ((csum (xs.take i)).toNat : Int), fun s _ => xs.length - s.2.1.toNat, ⟨rfl, 0, rfl, Nat.zero_le _, rfl⟩, ?_⟩
  rintro J ⟨r, i', ⟨⟩⟩ w1 ⟨rfl, i, hi, hle, hr⟩
  dsimp only at hi hr ⊢
  subst hi hr
  refine cD (fun hlt => ?_) (fun hlt => ?_)
  · have hx : xs[i]? = some xs[i] := List.getElem?_eq_getElem (by omega)
    obtain ⟨a, rfl, _, cx⟩ := h.at (bvs_get hx)
    refine ⟨_, rfl, by omega, by omega, _, by rw [Int.toNat_natCast, Nat.mul_one]; exact cx, by decide, by decide, by decide, by decide, by decide, ?_⟩
    have et : csum (xs.take (i + 1)) = stpP (csum (xs.take i)) xs[i] := by
      rw [List.take_add_one, hx, stpP_eq]
      unfold csum
      rw [crc_append]; rfl
    generalize csum (xs.take i) = q at et ⊢
    have e8 : Int.fdiv (q.toNat : Int) (2 ^ (min (Int.toNat 8) (IntKind.u16.bits))) = ((q >>> 8).toNat : Int) := shr16 q 8 (by decide)
    have l8 : ∀ x : W16, IntKind.u16.wrap ((x.toNat : Int) * 2 ^ (min (Int.toNat 8) (IntKind.u16.bits))) = ((x <<< 8).toNat : Int) := fun x => shl16 x 8 (by decide)
    have l12 : ∀ x : W16, IntKind.u16.wrap ((x.toNat : Int) * 2 ^ (min (Int.toNat 12) (IntKind.u16.bits))) = ((x <<< 12).toNat : Int) := fun x => shl16 x 12 (by decide)
    have l5 : ∀ x : W16, IntKind.u16.wrap ((x.toNat : Int) * 2 ^ (min (Int.toNat 5) (IntKind.u16.bits))) = ((x <<< 5).toNat : Int) := fun x => shl16 x 5 (by decide)
    have r4 : ∀ x : BitVec 8, Int.fdiv (x.toNat : Int) (2 ^ (min (Int.toNat 4) (IntKind.u8.bits))) = ((x >>> 4).toNat : Int) := fun x => shr8 x 4 (by decide)
    rw [IntWalk.i64_in ((i : Int) + 1) (by omega), u8bv, e8, cut8, xor8, r4, xor8, wide8, l8, l12, l5, xor16, xor16, xor16]
    exact ⟨⟨rfl, i + 1, rfl, by omega, by rw [et]; rfl⟩, by dsimp only; omega⟩
  · have : i = xs.length := by omega
    subst this
    rw [List.take_length]
    exact ⟨rfl, rfl⟩
/-- What Frame answers. -/
def frV (xs : Bs) : Bs × Int := if xs.length ≤ 1000 then (framed xs, 0) else ([], 4)
theorem frV_ok {xs : Bs} (h : xs.length ≤ 1000) : frV xs = (framed xs, 0) := if_pos h
theorem frV_le (xs : Bs) : (frV xs).1.length ≤ 1004 := by
  unfold frV; split
  · rw [framed_length]; omega
  · simp
theorem frame_ok (h : Rd w ok A (bvs xs)) (hm : xs.length ≤ 9000000000000000000) : Ret Try.prog 48 [.slice A xs.length c] w fun v w' => ∃ A' c', v = .tuple ⟨[.slice A' (frV xs).1.length c', .int .i64 (frV xs).2]⟩ ∧ Own w' 5 1 (bw w.heap.size w') A' (frV xs).1.length c' (bvs (frV xs).1) ∧ Fr none1 w w' := by
  apply S48_calls
  refine cD (fun hlt => ?_) (fun hlt => ?_)
  · have e : frV xs = ([], 4) := if_neg (by omega)
    rw [e]
    exact ⟨none, 0, rfl, Own.nil _ _ _ _, Fr.refl _ _⟩
  · have hl : xs.length ≤ 1000 := by omega
    rw [frV_ok hl]
    refine (newB (Nat.le_refl w.heap.size)).use ?_
    rintro v w1 ⟨b1, rfl, h1, f1⟩
    refine ⟨_, rfl, ?_⟩
    have eu : IntKind.u64.wrap ((xs.length : Nat) : Int) = ((xs.length : Nat) : Int) := IntWalk.u64_in _ (by omega)
    rw [eu]
    refine (putB h1 (n := xs.length) (by omega) 16).use ?_
    have p1 := putE_eq (L := []) (many := 16) (by decide) (by decide)
    rw [putL_eq p1, List.nil_append]
    rintro v w2 ⟨rfl, h2, g2⟩
    have h2' : WrB w.heap.size w2 b1 (nb xs.length 16) := h2
    refine ⟨_, rfl, ?_⟩
    refine (wout_ok h2'.1).use ?_
    rintro v w3 ⟨A3, c3, rfl, o3, f3⟩
    have o3' : Own w3 5 1 (bw w2.heap.size w3) A3 (wd xs.length).length c3 (bvs (wd xs.length)) := o3.mono fun k hk h => ⟨h, hk⟩
    have g3 : Bel w.heap.size w w3 := f1.bel0.trans' (g2.trans' f3.bel0)
    have hwl := wd_length xs.length
    refine ⟨_, _, _, rfl, ?_⟩
    obtain ⟨A4, c4, w4, r4, o4, f4, g4⟩ := appB (ty := 36) (m := xs.length) (c2 := c) Eby o3' f3.size (by rw [bvs_length]; omega) (h.new g3) (bvs_one _) (by omega) (by simp only [maxLen]; omega)
    have eh : bvs (wd xs.length) ++ bvs xs = bvs (headed xs) := by unfold headed bvs; rw [List.map_append]
    have hl4 : (wd xs.length).length + xs.length = (headed xs).length := by unfold headed; rw [List.length_append]
    rw [eh, hl4] at o4
    rw [hl4] at r4
    refine ⟨_, _, _, w4, r4, ?_⟩
    have g4' : Bel w.heap.size w w4 := g3.trans' (g4.mono fun k _ h => Nat.le_trans h1.2 (Nat.le_trans g2.size h))
    have hB4 := g4'.size
    refine (newB (Nat.le_refl w4.heap.size)).use ?_
    rintro v w5 ⟨b5, rfl, h5, f5⟩
    refine ⟨_, rfl, ?_⟩
    have o5 := o4.fr f5 fun _ _ _ h => h
    have hhl := headed_length xs
    refine (sum_ok (c := c4) o5.rd (by omega)).use ?_
    rintro v w5 ⟨rfl, rfl⟩
    refine ⟨_, rfl, ?_⟩
    have hs := (csum (headed xs)).isLt
    have eu2 : IntKind.u64.wrap ((csum (headed xs)).toNat : Int) = (((csum (headed xs)).toNat : Nat) : Int) := IntWalk.u64_in _ (by omega)
    rw [eu2]
    refine (putB h5 (n := (csum (headed xs)).toNat) (by omega) 16).use ?_
    rw [putL_eq p1, List.nil_append]
    rintro v w6 ⟨rfl, h6, g6⟩
    have h6' : WrB w4.heap.size w6 b5 (nb (csum (headed xs)).toNat 16) := h6
    refine ⟨_, rfl, ?_⟩
    have o6 := o5.fr g6 fun k _ h e => by simp only [from1] at e; have := h.2; omega
    refine (wout_ok h6'.1).use ?_
    rintro v w7 ⟨A7, c7, rfl, o7, f7⟩
    refine ⟨_, _, _, rfl, ?_⟩
    have o7' := o6.fr f7 fun _ _ _ h => h
    have o7w : Own w7 5 1 (from1 w6.heap.size) A7 (wd (csum (headed xs)).toNat).length c7 (bvs (wd (csum (headed xs)).toNat)) := o7
    have hBx : w2.heap.size ≤ w7.heap.size := Nat.le_trans f3.size (Nat.le_trans g4.size (Nat.le_trans f5.size (Nat.le_trans g6.size f7.size)))
    have o8 : Own w7 5 1 (bw w2.heap.size w7) A4 (headed xs).length c4 (bvs (headed xs)) := o7'.mono fun k hk h => ⟨h.1, hk⟩
    have hwl2 := wd_length (csum (headed xs)).toNat
    obtain ⟨A9, c9, w9, r9, o9, f9, g9⟩ := appB (ty := 36) (m := (wd (csum (headed xs)).toNat).length) (c2 := c7) Eby o8 hBx (by rw [bvs_length]; omega) o7w.rd (bvs_one _) (by omega) (by simp only [maxLen]; omega)
    have ef : bvs (headed xs) ++ bvs (wd (csum (headed xs)).toNat) = bvs (framed xs) := by unfold framed bvs; rw [List.map_append]
    have hl9 : (headed xs).length + (wd (csum (headed xs)).toNat).length = (framed xs).length := by unfold framed; rw [List.length_append]
    rw [ef, hl9] at o9
    rw [hl9] at r9
    have hsz2 : w.heap.size ≤ w2.heap.size := h2.2
    have gall : Bel w.heap.size w w9 := g4'.trans' (f5.bel0.trans' ((g6.mono fun k _ h => Nat.le_trans hB4 h).trans' (f7.bel0.trans' (g9.mono fun k _ h => Nat.le_trans hsz2 h))))
    exact ⟨_, _, _, w9, r9, A9, c9, rfl, o9.mono fun k hk h => ⟨Nat.le_trans hsz2 h.1, h.2⟩, gall.top⟩
theorem rd2 {B : Nat} {b : Nat} {w : World} (h1 : RdB B w b xs 0 0) (h2 : xs.length = 2) : Ret Try.prog 52 [.pointer (some ⟨b, 0, none⟩), .int .i64 16] w fun v w' => v = .int .u64 (w2 xs : Int) ∧ Bel B w w' := by
  have hd : (up8 xs).drop 0 = nb (w2 xs) 16 ++ [] := by
    have e := up8_wd (w2 xs)
    rw [wd_w2 h2] at e
    rw [List.drop_zero, List.append_nil, e]
  refine (getB_val h1 (k := 16) hd (by decide)).imp ?_
  rintro v w2' ⟨rfl, _, g2⟩
  rw [Nat.mod_eq_of_lt (w2_lt h2)]
  exact ⟨rfl, g2⟩
theorem size_ok (h : Rd w ok A (bvs xs)) (hc : xs.length ≤ c) (hm : xs.length ≤ 1000000) : Ret Try.prog 64 [.slice A xs.length c] w fun v w' => v = .int .i64 (sizeB xs : Int) ∧ Fr none1 w w' := by
  apply S64_calls
  refine cD (fun hlt => ?_) (fun hlt => ?_)
  · have e : sizeB xs = 0 := by unfold sizeB; rw [if_pos (by omega)]
    rw [e]; exact ⟨rfl, Fr.refl _ _⟩
  · have ht2 : (xs.take 2).length = 2 := by rw [List.length_take]; omega
    have hr2 : Rd w ok (slAddr A c 0 1) (bvs (xs.take 2)) := by rw [slAddr_zero]; exact h.upto 2
    refine ⟨by decide, by omega, ?_⟩
    have hn := rnewB (B := w.heap.size) (c := c - 0) hr2 (by omega) (Nat.le_refl _)
    rw [ht2] at hn
    refine hn.use ?_
    rintro v w1 ⟨b, rfl, h1, f1⟩
    refine ⟨_, rfl, ?_⟩
    refine (rd2 h1 ht2).use ?_
    rintro v w3 ⟨rfl, g3⟩
    refine ⟨_, rfl, ?_⟩
    have g3' : Bel w.heap.size w w3 := f1.bel0.trans' g3
    have hw2 := w2_lt ht2
    rw [IntWalk.i64_in ((w2 (xs.take 2) : Nat) : Int) (by omega), IntWalk.i64_in _ (by omega)]
    have e4 : ((w2 (xs.take 2) : Nat) : Int) + 4 = ((w2 (xs.take 2) + 4 : Nat) : Int) := by omega
    rw [e4]
    have bad : (xs.length < w2 (xs.take 2) + 4 ∨ 1004 < w2 (xs.take 2) + 4) → sizeB xs = 0 := fun hb => by unfold sizeB; rw [if_neg (by omega), if_pos hb]
    have hsz : ¬ (xs.length < w2 (xs.take 2) + 4 ∨ 1004 < w2 (xs.take 2) + 4) → sizeB xs = if w2 ((xs.take (w2 (xs.take 2) + 4)).drop (w2 (xs.take 2) + 2)) = (csum (xs.take (w2 (xs.take 2) + 2))).toNat then w2 (xs.take 2) + 4 else 0 := fun hb => by
      show (if xs.length < 4 then 0 else _) = _
      rw [if_neg (by omega), if_neg hb]
    generalize w2 (xs.take 2) = n at bad hsz hw2 ⊢
    refine cD (fun h1 => ?_) (fun h1 => ?_)
    · rw [bad (.inl (by omega))]
      exact cT rfl ⟨rfl, g3'.top⟩
    · by_cases h1004 : 1004 < n + 4
      · rw [bad (.inr h1004), decide_eq_true (by omega)]
        exact cT rfl ⟨rfl, g3'.top⟩
      · rw [decide_eq_false (by omega), hsz (by omega)]
        refine cF rfl ?_
        have fd : Fr none1 w3 w3.drew := Fr.drew w3
        unfold S64_k2
        rw [IntWalk.i64_in (((n + 4 : Nat) : Int) - 2) (by omega), show ((n + 4 : Nat) : Int) - 2 = ((n + 2 : Nat) : Int) by omega, Int.toNat_natCast, Int.toNat_natCast, slAddr_zero]
        have g4 := g3'.trans' fd.bel0
        generalize w3.drew = w4 at g4 ⊢
        have hr := h.new g4
        have ht4 : ((xs.take (n + 4)).drop (n + 2)).length = 2 := by rw [List.length_drop, List.length_take]; omega
        have hrn := rnewB (B := w4.heap.size) (c := c - (n + 2)) (Rd.sub hr (m := c) (lo := n + 2) (hi := n + 4) (by rw [List.length_take]; omega)) (by omega) (Nat.le_refl _)
        rw [ht4] at hrn
        rw [show n + 4 - (n + 2) = 2 by omega]
        refine ⟨by omega, by omega, by omega, by omega, by omega, by omega, ?_⟩
        refine hrn.use ?_
        rintro v w5 ⟨b5, rfl, h5, f5⟩
        refine ⟨_, rfl, ?_⟩
        refine (rd2 h5 ht4).use ?_
        rintro v w6 ⟨rfl, g6⟩
        refine ⟨_, rfl, ?_⟩
        have g6' : Bel w.heap.size w w6 := g4.trans' (f5.bel0.trans' (g6.mono fun k _ h => Nat.le_trans g4.size h))
        have htl : (xs.take (n + 2)).length = n + 2 := by rw [List.length_take]; omega
        have hsum := sum_ok (c := c - 0) ((h.new g6').upto (n + 2)) (by omega)
        rw [htl] at hsum
        refine hsum.use ?_
        rintro v w6 ⟨rfl, rfl⟩
        refine ⟨_, rfl, ?_⟩
        have hs := (csum (xs.take (n + 2))).isLt
        rw [IntWalk.u64_in _ (by omega)]
        refine cN (fun hne => ⟨?_, g6'.top⟩) (fun he => ⟨?_, g6'.top⟩)
        · rw [if_neg (by omega)]; rfl
        · rw [if_pos (by omega)]
theorem open_ok (h : Rd w ok A (bvs xs)) (hc : xs.length ≤ c) (hm : xs.length ≤ 1000000) : Ret Try.prog 55 [.slice A xs.length c] w fun v w' => ∃ A' c', v = .tuple ⟨[.slice A' ((openB xs).getD []).length c', .bool (openB xs).isSome]⟩ ∧ Own w' 5 1 (bw w.heap.size w') A' ((openB xs).getD []).length c' (bvs ((openB xs).getD [])) ∧ Fr none1 w w' := by
  apply S55_calls
  refine (size_ok h hc hm).use ?_
  rintro v w1 ⟨rfl, f1⟩
  refine ⟨_, rfl, ?_⟩
  have no : (sizeB xs = 0 ∨ sizeB xs ≠ xs.length) → ∃ A' c', Value.tuple ⟨[.slice none 0 0, .bool false]⟩ = .tuple ⟨[.slice A' ((openB xs).getD []).length c', .bool (openB xs).isSome]⟩ ∧ Own w1 5 1 (bw w.heap.size w1) A' ((openB xs).getD []).length c' (bvs ((openB xs).getD [])) ∧ Fr none1 w w1 := fun hb => by
    have e : openB xs = none := if_pos hb
    rw [e]
    exact ⟨none, 0, rfl, Own.nil _ _ _ _, f1⟩
  refine cD (fun h0 => cT rfl (no (.inl (by omega)))) (fun h0 => ?_)
  refine cN (fun h1 => no (.inr (by omega))) (fun h1 => ?_)
  have hs : sizeB xs = xs.length := by omega
  obtain ⟨ys, y1, y2, y3, y4, y5⟩ := sizeB_some (xs := xs) (by omega)
  have e : openB xs = some (inner xs (sizeB xs)) := by unfold openB; rw [if_neg (by omega)]
  rw [e]
  unfold S55_k1
  rw [IntWalk.i64_in ((sizeB xs : Int) - 2) (by omega), show (sizeB xs : Int) - 2 = ((sizeB xs - 2 : Nat) : Int) by omega, Int.toNat_natCast]
  have hin : (inner xs (sizeB xs)).length = sizeB xs - 2 - 2 := by rw [y4]; omega
  have hin' : ((xs.take (sizeB xs - 2)).drop 2).length = sizeB xs - 2 - 2 := hin
  obtain ⟨A', c', w2, r2, o2, f2⟩ := dupl (ty := 36) (c2 := c - 2) Eby (m := sizeB xs - 2 - 2) (by rw [bvs_length, hin']; omega) (Rd.sub (h.new f1.bel0) (m := c) (lo := 2) (hi := sizeB xs - 2) (by rw [List.length_take]; omega)) (bvs_one _) (by omega) (by simp only [maxLen]; omega)
  refine ⟨by omega, by omega, by decide, by omega, _, _, _, w2, r2, A', c', ?_, ?_, f1.trans' f2⟩
  · rw [Option.getD_some, hin]; rfl
  · rw [Option.getD_some, hin]
    exact o2.mono fun k hk h => ⟨Nat.le_trans f1.size h, hk⟩
end
/-! ### Rows of rows of bytes -/
def Bss (w : World) (ok : Nat → Prop) (vs : List Value) (xss : List Bs) : Prop := vs.length = xss.length ∧ ∀ (i : Nat) (ys : Bs), xss[i]? = some ys → ∃ A c, vs[i]? = some (.slice A ys.length c) ∧ ys.length ≤ c ∧ Rd w ok A (bvs ys)
theorem Bss.fr {F : Nat → Prop} {w w' : World} {ok : Nat → Prop} {vs : List Value} {xss : List Bs} (h : Bss w ok vs xss) (hf : Fr F w w') (hd : ∀ k, k < w.heap.size → ok k → ¬ F k) : Bss w' ok vs xss :=
  ⟨h.1, fun i ys hi => by obtain ⟨A, c, h1, h2, h3⟩ := h.2 i ys hi; exact ⟨A, c, h1, h2, h3.fr hf hd⟩⟩
theorem Bss.mono {w : World} {ok ok' : Nat → Prop} {vs : List Value} {xss : List Bs} (h : Bss w ok vs xss) (hk : ∀ k, k < w.heap.size → ok k → ok' k) : Bss w ok' vs xss :=
  ⟨h.1, fun i ys hi => by obtain ⟨A, c, h1, h2, h3⟩ := h.2 i ys hi; exact ⟨A, c, h1, h2, h3.mono hk⟩⟩
theorem Bss.nil (w : World) (ok : Nat → Prop) : Bss w ok [] [] := ⟨rfl, fun i ys h => by simp at h⟩
theorem Bss.snoc {w : World} {ok : Nat → Prop} {vs : List Value} {xss : List Bs} (h : Bss w ok vs xss) {A : Option Addr} {c : Nat} {ys : Bs} (hc : ys.length ≤ c) (hr : Rd w ok A (bvs ys)) : Bss w ok (vs ++ [.slice A ys.length c]) (xss ++ [ys]) := by
  refine ⟨by simp [h.1], fun i zs hi => ?_⟩
  rw [List.getElem?_append] at hi
  split at hi
  · obtain ⟨A, c, h1, h2⟩ := h.2 i zs hi
    exact ⟨A, c, by rw [List.getElem?_append_left (by rw [h.1]; omega)]; exact h1, h2⟩
  · have h0 : i - xss.length = 0 := by have := (List.getElem?_eq_some_iff.1 hi).1; simp at this; omega
    have hii : i = vs.length := by rw [h.1]; omega
    rw [h0] at hi; simp at hi; subst hi
    exact ⟨A, c, by rw [hii]; simp, hc, hr⟩
theorem Ess : ElT Try.prog 26 36 1 24 := elT_of (by kernel_rfl)
/-- An own row of rows of bytes; the bytes lie in X. -/
def Rows (B : Nat) (X : Nat → Prop) (w : World) (A : Option Addr) (c : Nat) (xss : List Bs) : Prop :=
  ∃ (okO okR : Nat → Prop) (vs : List Value), Own w 36 1 okO A xss.length c vs ∧ Bss w okR vs xss ∧ (∀ k, okO k → okR k → False) ∧ (∀ k, okO k → B ≤ k) ∧ (∀ k, okR k → X k)
section
variable {B : Nat} {X : Nat → Prop} {w : World} {A : Option Addr} {c : Nat} {xss : List Bs}
theorem Rows.nil (B : Nat) (X : Nat → Prop) (w : World) : Rows B X w none 0 [] := ⟨fun _ => False, fun _ => False, [], Own.nil _ _ _ _, Bss.nil _ _, fun _ h => h.elim, fun _ h => h.elim, fun _ h => h.elim⟩
theorem Rows.fr {F : Nat → Prop} {w' : World} (h : Rows B X w A c xss) (f : Fr F w w') (hF : ∀ k, k < w.heap.size → (B ≤ k ∨ X k) → ¬ F k) : Rows B X w' A c xss := by
  obtain ⟨o1, o2, vs, h1, h2, hd, s1, s2⟩ := h
  exact ⟨o1, o2, vs, h1.fr f fun k hk h => hF k hk (.inl (s1 k h)), h2.fr f fun k hk h => hF k hk (.inr (s2 k h)), hd, s1, s2⟩
theorem Rows.fr0 {w' : World} (h : Rows B X w A c xss) (f : Fr none1 w w') : Rows B X w' A c xss := h.fr f fun _ _ _ h => h
theorem Rows.mono {B' : Nat} {X' : Nat → Prop} (h : Rows B X w A c xss) (hB : ∀ k, B ≤ k → B' ≤ k) (hX : ∀ k, X k → X' k) : Rows B' X' w A c xss := by
  obtain ⟨o1, o2, vs, h1, h2, hd, s1, s2⟩ := h
  exact ⟨o1, o2, vs, h1, h2, hd, fun k h => hB k (s1 k h), fun k h => hX k (s2 k h)⟩
theorem Rows.snoc (h : Rows B X w A c xss) (hB : B ≤ w.heap.size) {Ar : Option Addr} {cr : Nat} {ys : Bs} {okr : Nat → Prop} (hr : Rd w okr Ar (bvs ys)) (hcr : ys.length ≤ cr) (hd : ∀ a, A = some a → ¬ okr a.block) (hx : ∀ k, k < w.heap.size → okr k → X k) (hl : xss.length ≤ 1000000) :
    ∃ A' c' w', (Builtin.append_ #[26, 26] 26 ⟨[.slice A xss.length c, .slice (some ⟨w.heap.size, 0, none⟩) 1 1]⟩).run Try.prog (w.alloc (.cells ⟨[.slice Ar ys.length cr]⟩ 36)) = .ok (.slice A' (xss.length + 1) c') w' ∧
      Rows B X w' A' c' (xss ++ [ys]) ∧ Fr (ownAt A) w w' := by
  obtain ⟨o1, o2, vs, h1, h2, hdd, s1, s2⟩ := h
  have a2 : Fr none1 w (w.alloc (.cells ⟨[.slice Ar ys.length cr]⟩ 36)) := Fr.alloc _ _
  have lit := Own.lit w 36 1 1 [.slice Ar ys.length cr] rfl (by simp [maxLen])
  have h1' : Own w 36 1 (ownAt A) A xss.length c vs := h1.ok fun a ha => ⟨a, ha, rfl⟩
  obtain ⟨A', c', w', r, o, f, _⟩ := run_append (ty := 26) (m := 1) (c2 := 1) Ess (h1'.fr a2 fun _ _ _ h => h) rfl lit.rd (fun v hv => by simp at hv; subst hv; rfl) (by omega) (by simp only [maxLen]; omega)
  have f' : Fr (ownAt A) w w' := (a2.mono fun _ _ h => h.elim).trans' f
  have hs := a2.size
  have hown : ∀ k, ownAt A k → o1 k ∧ k < w.heap.size := fun k ⟨a, ha, e⟩ => e ▸ h1.has a ha
  have hr' : Rd w (fun k => k < w.heap.size ∧ okr k) Ar (bvs ys) := hr.mono fun k hk h => ⟨hk, h⟩
  have b1 : Bss w (fun k => k < w.heap.size ∧ (o2 k ∨ okr k)) vs xss := h2.mono fun k hk h => ⟨hk, .inl h⟩
  have ne : ∀ k, (k < w.heap.size ∧ (o2 k ∨ okr k)) → ¬ ownAt A k := fun k hk e => by
    rcases hk.2 with h | h
    · exact hdd k (hown k e).1 h
    · obtain ⟨a, ha, e⟩ := e
      subst e
      exact hd a ha h
  refine ⟨A', c', w', r, ⟨fun k => ownAt A k ∨ w.heap.size ≤ k, fun k => k < w.heap.size ∧ (o2 k ∨ okr k), vs ++ [.slice Ar ys.length cr], ?_, ?_, fun k ho hr => ?_, fun k ho => ?_, fun k hk => ?_⟩, f'⟩
  · rw [List.length_append]
    exact o.mono fun k _ h => by
      rcases h with h | h
      · exact .inl h
      · exact .inr (Nat.le_trans hs h)
  · exact (b1.fr f' fun k _ hk => ne k hk).snoc hcr ((hr'.mono fun k hk h => ⟨hk, .inr h.2⟩).fr f' fun k _ hk => ne k hk)
  · rcases ho with ho | ho
    · exact ne k hr ho
    · have := hr.1; omega
  · rcases ho with ho | ho
    · exact s1 k (hown k ho).1
    · omega
  · rcases hk.2 with h | h
    · exact s2 k h
    · exact hx k hk.1 h
end
section
variable {w : World} {ok : Nat → Prop} {A : Option Addr} {c : Nat} {xs : Bs}
theorem scan_ok (h : Rd w ok A (bvs xs)) (hc : xs.length ≤ c) (hm : xs.length ≤ 1000000) : Ret Try.prog 39 [.slice A xs.length c] w fun v w' => ∃ A' c', v = .tuple ⟨[.slice A' (scanB xs).1.length c', .int .i64 ((scanB xs).2 : Int)]⟩ ∧ Rows w.heap.size (from1 w.heap.size) w' A' c' (scanB xs).1 ∧ Fr none1 w w' := by
  replace h := h.mono (ok' := fun k => k < w.heap.size) fun k hk _ => hk
  apply S39_calls
  refine (size_ok h hc hm).use ?_
  rintro v w1 ⟨rfl, f1⟩
  refine ⟨_, rfl, ?_⟩
  refine ⟨fun s w' => ∃ (q : Nat) (out : List Bs), q ≤ xs.length ∧ s.2.2.1 = (sizeB (xs.drop q) : Int) ∧ s.2.1.2 = (xs.length - q, c - q) ∧ Rd w' (fun k => k < w.heap.size) s.2.1.1 (bvs (xs.drop q)) ∧ s.1.2.1 = out.length ∧ Rows w.heap.size (from1 w.heap.size) w' s.1.1 s.1.2.2 out ∧
      out ++ (scanB (xs.drop q)).1 = (scanB xs).1 ∧ q + (scanB (xs.drop q)).2 = (scanB xs).2 ∧ out.length ≤ q ∧ Bel w.heap.size w w', fun s _ => s.2.1.2.1,
    ⟨0, [], Nat.zero_le _, rfl, rfl, h.new f1.bel0, rfl, Rows.nil _ _ _, by simp, by simp, Nat.le_refl _, f1.bel0⟩, ?_⟩
  rintro J ⟨⟨A1, l1, c1⟩, ⟨A2, l2, c2⟩, n', ⟨⟩⟩ w2 ⟨q, out, hq, hn, hs2, rq, hl1, o2, e1, e2, hoq, g2⟩
  dsimp only at hn hs2 hl1 o2 rq ⊢
  simp only [Prod.mk.injEq] at hs2
  obtain ⟨rfl, rfl⟩ := hs2
  subst hn hl1
  have hdl : (xs.drop q).length = xs.length - q := List.length_drop
  have hle := sizeB_le (xs.drop q)
  have hws := g2.size
  refine cD (fun hpos => ?_) (fun hpos => ?_)
  · obtain ⟨ys, y1, y2, y3, y4, y5⟩ := sizeB_some (xs := xs.drop q) (by omega)
    generalize hsz : sizeB (xs.drop q) = n at *
    have estep := scanB_step (xs := xs.drop q) (by omega)
    rw [hsz, y4, List.drop_drop] at estep
    rw [estep] at e1 e2
    unfold S39_k1
    rw [IntWalk.i64_in ((n : Int) - 2) (by omega), show (n : Int) - 2 = ((n - 2 : Nat) : Int) by omega, Int.toNat_natCast, Int.toNat_natCast]
    have hin : (((xs.drop q).take (n - 2)).drop 2).length = n - 2 - 2 := by rw [List.length_drop, List.length_take]; omega
    have hin2 : ((xs.drop q).take (n - 2)).drop 2 = ys := y4
    obtain ⟨A3, c3, w3, r3, o3, f3⟩ := dupl (ty := 36) (c2 := n - 2 - 2) Eby (m := n - 2 - 2) (by rw [bvs_length, hin]; omega) (Rd.sub rq (m := n - 2) (lo := 2) (hi := n - 2) (by rw [List.length_take]; omega)) (bvs_one _) (by omega) (by simp only [maxLen]; omega)
    rw [hin2] at o3
    have hyl : ys.length = n - 2 - 2 := by rw [← hin2, hin]
    have g3 := g2.trans' f3.bel0
    rw [show Int.toNat 2 = 2 from rfl, ← hyl]
    rw [← hyl] at o3 r3
    have hA1 : ∀ a, A1 = some a → ¬ from1 w2.heap.size a.block := by
      obtain ⟨o1, _, _, k1, _⟩ := o2
      intro a ha h
      have := (k1.has a ha).2
      simp only [from1] at h; omega
    obtain ⟨A4, c4, w4, r4, o4, f4⟩ := (o2.fr0 f3).snoc g3.size o3.rd o3.le hA1 (fun k _ h => Nat.le_trans hws h) (by omega)
    have hA1w : ∀ k, ownAt A1 k → w.heap.size ≤ k := by
      obtain ⟨o1, _, _, k1, _, _, s1, _⟩ := o2
      rintro k ⟨a, ha, rfl⟩
      exact s1 _ (k1.has a ha).1
    have g34 := g3.trans' (f4.bel hA1w)
    refine ⟨by omega, by omega, by omega, by omega, by decide, by omega, A3, _, c3, w3, r3, A4, _, c4, w4, r4, by omega, by omega, ?_⟩
    have rn : Rd w4 (fun k => k < w.heap.size) (slAddr A2 (c - q) n 1) (bvs (xs.drop (q + n))) := by
      have r4' : Rd w4 (fun k => k < w.heap.size) A2 (bvs (xs.drop q)) := (rq.new f3.bel0).fr f4 fun k _ hk1 h => by have := hA1w k h; omega
      have := Rd.sub r4' (m := c - q) (lo := n) (hi := xs.length - q) (by rw [List.length_take]; omega)
      rwa [List.take_of_length_le (by omega), List.drop_drop] at this
    have hdl2 : (xs.drop (q + n)).length = xs.length - q - n := by rw [List.length_drop]; omega
    have hsz2 := size_ok (c := c - q - n) rn (by omega) (by omega)
    rw [hdl2] at hsz2
    refine hsz2.use ?_
    rintro v w5 ⟨rfl, f5⟩
    refine ⟨_, rfl, ⟨q + n, out ++ [ys], by omega, rfl, by simp only [Prod.mk.injEq]; omega, rn.new f5.bel0, by simp, o4.fr0 f5, ?_, ?_, ?_, g34.trans' f5.bel0⟩, by dsimp only; omega⟩
    · rw [← e1]; simp
    · rw [← e2]; dsimp only; omega
    · simp only [List.length_append, List.length_singleton]; omega
  · have hz : sizeB (xs.drop q) = 0 := by omega
    rw [scanB_zero hz] at e1 e2
    simp only [List.append_nil, Nat.add_zero] at e1 e2
    subst e1
    refine ⟨A1, c1, ?_, o2, g2.top⟩
    rw [IntWalk.i64_in _ (by omega), ← e2, show ((xs.length : Nat) : Int) - ((xs.length - q : Nat) : Int) = (q : Int) by omega]
end
end Go.Proofs
