/- The examples; the laws of sums, of frames, of scans, of framing back, and of three lists. -/
import Derived.Test.YtkchikcbikkgeaaCkD02
import Derived.Test.YtkchikcbikkgeaaHp6
set_option linter.unusedVariables false
namespace Go.Proofs
open Go Go.Eng
theorem framed_nil : framed [] = [0, 0, 29, 15] := by decide +kernel
theorem sum19 : (csum [49, 50, 51, 52, 53, 54, 55, 56, 57]).toNat = 10673 := by decide +kernel
theorem shown_ok (w : World) : Ret Try.prog 11 [] w fun v w' => v = .bool true ∧ Fr none1 w w' := by
  apply S11_calls
  refine (frame_ok (xs := []) (ok := none1) (c := 0) (Rd.nil w _ none) (by decide)).use ?_
  rintro v w1 ⟨A1, c1, rfl, o1, f1⟩
  rw [frV_ok (by decide)] at o1 ⊢
  refine ⟨_, _, _, _, rfl, ?_⟩
  have a2 : Fr none1 w1 (w1.alloc (.cells ⟨bvs [0, 0, 29, 15, 0]⟩ 5)) := Fr.alloc _ _
  have lit := Own.lit w1 5 1 5 (bvs [0, 0, 29, 15, 0]) rfl (by simp [maxLen])
  have hsc := scan_ok (xs := [0, 0, 29, 15, 0]) (c := 5) lit.rd (by decide) (by decide)
  have es : scanB [0, 0, 29, 15, 0] = ([[]], 4) := by
    have e : ([0, 0, 29, 15, 0] : Bs) = framed [] ++ [0] := by rw [framed_nil]; rfl
    rw [e, scanB_frame (by decide), scanB_zero (by unfold sizeB; rw [if_pos (by decide)]), framed_nil]
    rfl
  rw [es] at hsc
  refine Ret.use hsc ?_
  rintro v w2 ⟨A2, c2, rfl, _, f2⟩
  refine ⟨_, _, _, _, rfl, ?_⟩
  obtain ⟨w3, r3, d3, f3⟩ := run_bmark Uby Uu8 w2 [49, 50, 51, 52, 53, 54, 55, 56, 57] 9 9
  refine ⟨_, _, _, w3, r3, ?_⟩
  have hs := sum_ok (xs := [49, 50, 51, 52, 53, 54, 55, 56, 57]) (c := 9) d3 (by decide)
  rw [sum19] at hs
  refine Ret.use hs ?_
  rintro v w3 ⟨rfl, rfl⟩
  have fall : Fr none1 w w3 := f1.trans' (a2.trans' (f2.trans' f3))
  refine ⟨_, rfl, cT rfl (cT rfl ⟨_, w3, run_toString Uby Uu8 Ustr rfl ((o1.fr (a2.trans' (f2.trans' f3)) fun _ _ _ h => h).rd), cT ?_ (cT rfl ⟨rfl, fall⟩)⟩)⟩
  rw [framed_nil]; rfl
theorem few_ok {w : World} {A : Option Addr} {c : Nat} {xs : Bs} (hc : xs.length ≤ c) : Ret Try.prog 13 [.slice A xs.length c] w fun v w' => w' = w ∧ v = .slice A (xs.take 20000).length c := by
  apply S13_calls
  obtain ⟨m, hm0, hm'⟩ := upto_n xs.length 20000
  have hm2 : (if (20000 : Int) < ((xs.length : Nat) : Int) then (20000 : Int) else ((xs.length : Nat) : Int)) = (m : Int) := hm0
  unfold S13
  rw [hm2, Int.toNat_natCast, Nat.sub_zero, slAddr_zero]
  have : (xs.take 20000).length = m := by rw [List.length_take]; omega
  rw [this]
  exact ⟨by omega, by omega, rfl, rfl⟩
section
variable {W : World} {A : Option Addr} {c : Nat} {xs : Bs}
theorem checkSums_ok (h : Rd W (fun k => k < W.heap.size) A (bvs xs)) (hc : xs.length ≤ c) : Ret Try.prog 3 [.slice A xs.length c] W (Done W) := by
  have hl : (xs.take 20000).length ≤ 1000000 := by rw [List.length_take]; omega
  apply S3_calls
  refine (shown_ok W).use ?_
  rintro v w1 ⟨rfl, f1⟩
  refine ⟨_, rfl, cT rfl ?_⟩
  have h1 := (h.fr f1 fun _ _ _ h => h).upto 20000
  refine (few_ok hc).use ?_
  rintro v w1 ⟨rfl, rfl⟩
  refine ⟨_, _, _, rfl, ?_⟩
  refine (sum_ok h1 hl).use ?_
  rintro v w1 ⟨rfl, rfl⟩
  refine ⟨_, rfl, ?_⟩
  refine (few_ok hc).use ?_
  rintro v w1 ⟨rfl, rfl⟩
  refine ⟨_, _, _, rfl, ?_⟩
  refine (fsum_ok h1 hl).use ?_
  rintro v w1 ⟨rfl, rfl⟩
  exact ⟨_, rfl, by simp, f1⟩
theorem checkFrames_ok (h : Rd W (fun k => k < W.heap.size) A (bvs xs)) (hc : xs.length ≤ c) : Ret Try.prog 8 [.slice A xs.length c] W (Done W) := by
  have hl : (xs.take 20000).length ≤ 1000000 := by rw [List.length_take]; omega
  have hc' : (xs.take 20000).length ≤ c := by rw [List.length_take]; omega
  apply S8_calls
  refine (shown_ok W).use ?_
  rintro v w1 ⟨rfl, f1⟩
  refine ⟨_, rfl, ?_⟩
  have h1 := (h.fr f1 fun _ _ _ h => h).upto 20000
  generalize hxs : xs.take 20000 = ys at h1 hl hc'
  refine (few_ok hc).use ?_
  rintro v w1 ⟨rfl, rfl⟩
  rw [hxs]
  refine ⟨_, _, _, rfl, ?_⟩
  refine (frame_ok (c := c) h1 (by omega)).use ?_
  rintro v w2 ⟨A2, c2, rfl, o2, f2⟩
  refine ⟨_, _, _, _, rfl, ?_⟩
  refine (few_ok hc).use ?_
  rintro v w2 ⟨rfl, rfl⟩
  rw [hxs]
  refine ⟨_, _, _, rfl, ?_⟩
  refine (fframe_ok (c := c) (h1.new f2.bel0) (by omega)).use ?_
  rintro v w3 ⟨A3, c3, rfl, o3, f3⟩
  refine ⟨_, _, _, _, rfl, ?_⟩
  refine (few_ok hc).use ?_
  rintro v w3 ⟨rfl, rfl⟩
  rw [hxs]
  refine ⟨_, _, _, rfl, ?_⟩
  refine (open_ok (c := c) (h1.new (f2.trans' f3).bel0) hc' hl).use ?_
  rintro v w4 ⟨A4, c4, rfl, o4, f4⟩
  refine ⟨_, _, _, _, rfl, ?_⟩
  refine (few_ok hc).use ?_
  rintro v w4 ⟨rfl, rfl⟩
  rw [hxs]
  refine ⟨_, _, _, rfl, ?_⟩
  refine (fopen_ok (c := c) (h1.new (f2.trans' (f3.trans' f4)).bel0) hc' hl).use ?_
  rintro v w5 ⟨A5, c5, rfl, _, r5, f5⟩
  refine ⟨_, _, _, _, rfl, ?_⟩
  have k2 := (o2.fr (f3.trans' (f4.trans' f5)) fun _ _ _ h => h).rd
  have k3 := (o3.fr (f4.trans' f5) fun _ _ _ h => h).rd
  have k4 := (o4.fr f5 fun _ _ _ h => h).rd
  refine cT rfl ⟨_, w5, run_toString Uby Uu8 Ustr rfl k2, _, w5, run_toString Uby Uu8 Ustr rfl k3, cT (by simp) (cT (by simp) ⟨_, w5, run_toString Uby Uu8 Ustr rfl k4, _, w5, run_toString Uby Uu8 Ustr rfl r5, cT (by simp) ⟨by simp, ?_⟩⟩)⟩
  exact f1.trans' (f2.trans' (f3.trans' (f4.trans' f5)))
theorem checkScans_ok (h : Rd W (fun k => k < W.heap.size) A (bvs xs)) (hc : xs.length ≤ c) : Ret Try.prog 4 [.slice A xs.length c] W (Done W) := by
  have hl : (xs.take 20000).length ≤ 1000000 := by rw [List.length_take]; omega
  have hc' : (xs.take 20000).length ≤ c := by rw [List.length_take]; omega
  apply S4_calls
  have h1 := h.upto 20000
  generalize hxs : xs.take 20000 = ys at h1 hl hc'
  refine (few_ok hc).use ?_
  rintro v w1 ⟨rfl, rfl⟩
  rw [hxs]
  refine ⟨_, _, _, rfl, ?_⟩
  refine (scan_ok (c := c) h1 hc' hl).use ?_
  rintro v w2 ⟨A2, c2, rfl, o2, f2⟩
  refine ⟨_, _, _, _, rfl, ?_⟩
  refine (few_ok hc).use ?_
  rintro v w2 ⟨rfl, rfl⟩
  rw [hxs]
  refine ⟨_, _, _, rfl, ?_⟩
  refine (fscan_ok (c := c) (h1.new f2.bel0) hc' hl).use ?_
  rintro v w3 ⟨A3, c3, rfl, o3, f3⟩
  refine ⟨_, _, _, _, rfl, ?_⟩
  refine (shown_ok w3).use ?_
  rintro v w4 ⟨rfl, f4⟩
  refine ⟨_, rfl, cT rfl ?_⟩
  refine (same_ok (c1 := c2) (c2 := c3) ((o2.rs.fr0 f3).fr0 f4) (o3.rs.fr0 f4) (by obtain ⟨_, _, _, h1, _⟩ := o2; exact h1.max)).use ?_
  rintro v w5 ⟨rfl, f5⟩
  refine ⟨_, rfl, cT (by simp) ⟨by simp, ?_⟩⟩
  exact f2.trans' (f3.trans' (f4.trans' f5))
theorem checkBack_ok {A2 : Option Addr} {c2 : Nat} {zs : Bs} (h : Rd W (fun k => k < W.heap.size) A (bvs xs)) (hc : xs.length ≤ c) (hz : Rd W (fun k => k < W.heap.size) A2 (bvs zs)) (hcz : zs.length ≤ c2) (cut : Int) (hcut : 0 ≤ cut ∧ cut < 65536) :
    Ret Try.prog 9 [.slice A xs.length c, .slice A2 zs.length c2, .int .u16 cut] W (Done W) := by
  apply S9_calls
  refine (shown_ok W).use ?_
  rintro v w1 ⟨rfl, f1⟩
  refine ⟨_, rfl, ?_⟩
  obtain ⟨m, hm0, hm'⟩ := upto_n xs.length 1000
  have hm2 : (if (1000 : Int) < ((xs.length : Nat) : Int) then (1000 : Int) else ((xs.length : Nat) : Int)) = (m : Int) := hm0
  obtain ⟨n, hn0, hn'⟩ := upto_n zs.length 1000
  have hn2 : (if (1000 : Int) < ((zs.length : Nat) : Int) then (1000 : Int) else ((zs.length : Nat) : Int)) = (n : Int) := hn0
  rw [hm2, hn2, Int.toNat_natCast, Int.toNat_natCast, Nat.sub_zero, Nat.sub_zero, slAddr_zero, slAddr_zero]
  have hx1 := h.upto m
  have hz1 := hz.upto n
  have hxl : (xs.take m).length = m := by rw [List.length_take]; omega
  have hzl : (zs.take n).length = n := by rw [List.length_take]; omega
  refine ⟨by omega, by omega, by omega, by omega, ?_⟩
  have hm3 : m ≤ c := by omega
  have hn3 : n ≤ c2 := by omega
  have hm4 : m ≤ 1000 := by omega
  have hn4 : n ≤ 1000 := by omega
  generalize xs.take m = x at hx1 hxl
  generalize zs.take n = y at hz1 hzl
  subst hxl hzl
  have fd : Fr none1 w1 w1.drew := Fr.drew w1
  have f1' := f1.trans' fd
  generalize w1.drew = w1 at f1'
  refine (frame_ok (c := c - 0) (hx1.new f1'.bel0) (by omega)).use ?_
  rintro v w2 ⟨A3, c3, rfl, o3, f2⟩
  rw [frV_ok hm4] at o3 ⊢
  dsimp only at o3 ⊢
  refine ⟨_, _, _, _, rfl, ?_⟩
  have hfl := framed_length x
  refine (open_ok (c := c3) o3.rd o3.le (by omega)).use ?_
  rintro v w3 ⟨A4, c4, rfl, o4, f3⟩
  have eo : openB (framed x) = some x := openB_some.2 ⟨hm4, rfl⟩
  rw [eo] at o4 ⊢
  rw [Option.getD_some] at o4 ⊢
  refine ⟨_, _, _, _, rfl, cF rfl (cF rfl ?_)⟩
  refine ⟨_, w3, run_toString Uby Uu8 Ustr rfl o4.rd, _, w3, run_toString Uby Uu8 Ustr rfl (hx1.new (f1'.trans' (f2.trans' f3)).bel0), cF (by simp) (cF (by rw [decide_eq_false]; omega) ?_)⟩
  obtain ⟨q, hq, hql⟩ : ∃ q : Nat, Int.tmod (IntKind.i64.wrap cut) (((framed x).length : Nat) : Int) = (q : Int) ∧ q < (framed x).length := by
    rw [IntWalk.i64_in _ (by omega), Int.tmod_eq_emod_of_nonneg (by omega)]
    have h0 := Int.emod_nonneg cut (b := (((framed x).length : Nat) : Int)) (by omega)
    have h1 := Int.emod_lt_of_pos cut (b := (((framed x).length : Nat) : Int)) (by omega)
    exact ⟨(cut % (((framed x).length : Nat) : Int)).toNat, by omega, by omega⟩
  unfold S9_k2
  rw [hq, Int.toNat_natCast, Nat.sub_zero, slAddr_zero]
  have hle3 := o3.le
  refine ⟨by omega, by omega, by omega, ?_⟩
  have o3' := o3.fr f3 fun _ _ _ h => h
  have hql2 : ((framed x).take q).length = q := by rw [List.length_take]; omega
  have hop := open_ok (c := c3 - 0) (o3'.rd.upto q) (by omega) (by omega)
  have en : openB ((framed x).take q) = none := openB_pre hm4 ⟨(framed x).drop q, by rw [List.take_append_drop]⟩ (by omega)
  rw [en, hql2] at hop
  refine hop.use ?_
  rintro v w4 ⟨A5, c5, rfl, _, f4⟩
  refine ⟨_, _, _, _, rfl, ?_⟩
  have f4' := f1'.trans' (f2.trans' (f3.trans' f4))
  refine (open_ok (c := c2 - 0) (hz1.new f4'.bel0) (by omega) (by omega)).use ?_
  rintro v w5 ⟨A6, c6, rfl, o6, f5⟩
  refine ⟨_, _, _, _, rfl, ?_⟩
  have hol : ((openB y).getD []).length ≤ 1000 := by
    cases e : openB y with
    | none => simp
    | some z => exact (openB_some.1 e).1
  refine (frame_ok (c := c6) o6.rd (by omega)).use ?_
  rintro v w6 ⟨A7, c7, rfl, o7, f6⟩
  rw [frV_ok hol] at o7 ⊢
  refine ⟨_, _, _, _, rfl, cT rfl (cT rfl ?_)⟩
  have fall := f4'.trans' (f5.trans' f6)
  cases e : openB y with
  | none => exact cF rfl (cT rfl ⟨rfl, fall⟩)
  | some z =>
    have ez := (openB_some.1 e).2
    rw [e, Option.getD_some, ← ez] at o7
    refine cT rfl ⟨str y, w6, ?_, _, w6, run_toString Uby Uu8 Ustr rfl (hz1.new fall.bel0), cT (by simp) ⟨rfl, fall⟩⟩
    have := run_toString (P := Try.prog) (c := c7) Uby Uu8 Ustr rfl o7.rd
    rw [Option.getD_some, ← ez]
    exact this
end
/-! ### Three lists -/
theorem crc_xor : ∀ (xs ys : Bs) (r s : W16), xs.length = ys.length → crc (r ^^^ s) (List.zipWith (· ^^^ ·) xs ys) = crc r xs ^^^ crc s ys
  | [], [], _, _, _ => rfl
  | x :: xs, y :: ys, r, s, h => by
    have e : crc (r ^^^ s) (List.zipWith (· ^^^ ·) (x :: xs) (y :: ys)) = crc (stp (r ^^^ s) (x ^^^ y)) (List.zipWith (· ^^^ ·) xs ys) := rfl
    rw [e, stp_xor, crc_xor xs ys _ _ (by simpa using h)]
    rfl
def xor3 (a b c : Bs) : Bs := List.zipWith (· ^^^ ·) (List.zipWith (· ^^^ ·) a b) c
theorem xor3_length {a b c : Bs} {n : Nat} (ha : a.length = n) (hb : b.length = n) (hc : c.length = n) : (xor3 a b c).length = n := by
  unfold xor3; simp [ha, hb, hc]
theorem csum3 {a b c : Bs} {n : Nat} (ha : a.length = n) (hb : b.length = n) (hc : c.length = n) : (csum a ^^^ csum b) ^^^ csum c = csum (xor3 a b c) := by
  unfold csum xor3
  have h1 := crc_xor a b 0xFFFF#16 0xFFFF#16 (by omega)
  have h2 := crc_xor (List.zipWith (· ^^^ ·) a b) c (0xFFFF#16 ^^^ 0xFFFF#16) 0xFFFF#16 (by simp; omega)
  rw [← h1, ← h2]
  congr 1
theorem xor3_get {a b c : Bs} {i : Nat} {x y z : UInt8} (hx : a[i]? = some x) (hy : b[i]? = some y) (hz : c[i]? = some z) : (xor3 a b c)[i]? = some ((x ^^^ y) ^^^ z) := by
  unfold xor3
  simp [List.getElem?_zipWith, hx, hy, hz]
theorem mkT_of {P : Program} {t e : TypeId} {z : Value} {bytes : Nat} (h1 : P.underlying t = some (.slice e)) (h2 : ((P.info? e).map fun i => (i.size == 1 && i.bytes == bytes)) = some true) (h3 : (P.info? e).bind (·.zero) = some z) (hz : z.cells = #[z]) : MkT P t e z bytes := by
  cases hi : P.info? e with
  | none => rw [hi] at h2; cases h2
  | some i =>
    rw [hi] at h2 h3
    simp at h2
    exact ⟨h1, i, hi, h3, h2.1, h2.2, hz⟩
theorem Mby : MkT Try.prog 22 5 (.int .u8 0) 1 := mkT_of Uby (by kernel_rfl) (by kernel_rfl) rfl
section
variable {W : World}
theorem checkThree_ok {A1 A2 A3 : Option Addr} {c1 c2 c3 : Nat} {xs ys zs : Bs} (hx : Rd W (fun k => k < W.heap.size) A1 (bvs xs)) (hcx : xs.length ≤ c1) (hy : Rd W (fun k => k < W.heap.size) A2 (bvs ys)) (hcy : ys.length ≤ c2) (hz : Rd W (fun k => k < W.heap.size) A3 (bvs zs)) (hcz : zs.length ≤ c3) :
    Ret Try.prog 6 [.slice A1 xs.length c1, .slice A2 ys.length c2, .slice A3 zs.length c3] W (Done W) := by
  apply S6_calls
  refine (shown_ok W).use ?_
  rintro v w1 ⟨rfl, f1⟩
  refine ⟨_, rfl, ?_⟩
  obtain ⟨n, hn, hn'⟩ : ∃ n : Nat, (if 10000 < (if ((zs.length : Nat) : Int) < (if ((ys.length : Nat) : Int) < ((xs.length : Nat) : Int) then ((ys.length : Nat) : Int) else ((xs.length : Nat) : Int)) then ((zs.length : Nat) : Int) else (if ((ys.length : Nat) : Int) < ((xs.length : Nat) : Int) then ((ys.length : Nat) : Int) else ((xs.length : Nat) : Int))) then 10000 else (if ((zs.length : Nat) : Int) < (if ((ys.length : Nat) : Int) < ((xs.length : Nat) : Int) then ((ys.length : Nat) : Int) else ((xs.length : Nat) : Int)) then ((zs.length : Nat) : Int) else (if ((ys.length : Nat) : Int) < ((xs.length : Nat) : Int) then ((ys.length : Nat) : Int) else ((xs.length : Nat) : Int)))) = (n : Int) ∧ n ≤ xs.length ∧ n ≤ ys.length ∧ n ≤ zs.length ∧ n ≤ 10000 := by
    refine ⟨min (min (min xs.length ys.length) zs.length) 10000, ?_, by omega, by omega, by omega, by omega⟩
    repeat' split
    all_goals omega
  rw [hn]
  obtain ⟨l1, l2, l3, l4⟩ := hn'
  have lx : (xs.take n).length = n := by rw [List.length_take]; omega
  have ly : (ys.take n).length = n := by rw [List.length_take]; omega
  have lz : (zs.take n).length = n := by rw [List.length_take]; omega
  have rx := hx.upto n
  have ry := hy.upto n
  have rz := hz.upto n
  have hxor := xor3_length lx ly lz
  have hsum := csum3 lx ly lz
  have hget := fun i x y z => @xor3_get (xs.take n) (ys.take n) (zs.take n) i x y z
  generalize xs.take n = a at *
  generalize ys.take n = b at *
  generalize zs.take n = d at *
  have rmk := run_mk Mby w1 n (by omega) (by simp only [maxLen]; omega)
  have fm : Fr none1 w1 (w1.alloc (.cells ⟨List.replicate n (.int .u8 0)⟩ 5)) := Fr.alloc _ _
  have om := Own.lit w1 5 1 n (List.replicate n (.int .u8 0)) (by simp) (by simp only [maxLen]; omega)
  refine ⟨_, _, _, _, rmk, ?_⟩
  have s1 := f1.size
  have g2 : Bel W.heap.size W (w1.alloc (.cells ⟨List.replicate n (.int .u8 0)⟩ 5)) := f1.bel0.trans' fm.bel0
  generalize w1.alloc (.cells ⟨List.replicate n (.int .u8 0)⟩ 5) = w2 at fm om g2 ⊢
  have orow : Own w2 5 1 (fun k => k = w1.heap.size) (some ⟨w1.heap.size, 0, none⟩) n n (bvs ((xor3 a b d).take 0 ++ List.replicate (n - 0) 0)) := by
    have e : bvs ((xor3 a b d).take 0 ++ List.replicate (n - 0) 0) = List.replicate n (.int .u8 0) := by simp [bvs, bv]
    rw [e]; exact om
  generalize w1.heap.size = q at *
  refine ⟨fun s w' => ∃ i : Nat, s.1 = (i : Int) ∧ i ≤ n ∧ Own w' 5 1 (fun k => k = q) (some ⟨q, 0, none⟩) n n (bvs ((xor3 a b d).take i ++ List.replicate (n - i) 0)) ∧ Bel W.heap.size W w', fun s _ => n - s.1.toNat, ⟨0, rfl, Nat.zero_le _, orow, g2⟩, ?_⟩
  rintro J ⟨i', ⟨⟩⟩ w3 ⟨i, hi, hle, o3, g3⟩
  dsimp only at hi ⊢
  subst hi
  have fd : Fr none1 w3 w3.drew := Fr.drew w3
  have o4 := o3.fr fd fun _ _ _ h => h
  have g4 := g3.trans' fd.bel0
  refine cD (fun hlt => ?_) (fun hlt => ?_)
  · unfold S6_k1
    generalize w3.drew = w4 at o4 g4 ⊢
    have ha : a[i]? = some a[i] := List.getElem?_eq_getElem (by omega)
    have hb : b[i]? = some b[i] := List.getElem?_eq_getElem (by omega)
    have hd : d[i]? = some d[i] := List.getElem?_eq_getElem (by omega)
    obtain ⟨p1, e1, _, k1⟩ := (rx.new g4).at (bvs_get ha)
    obtain ⟨p2, e2, _, k2⟩ := (ry.new g4).at (bvs_get hb)
    obtain ⟨p3, e3, _, k3⟩ := (rz.new g4).at (bvs_get hd)
    have hx3 := hget i _ _ _ ha hb hd
    obtain ⟨t1, t2⟩ := o4.store (j := i) (by rw [bvs_length, List.length_append, List.length_take, List.length_replicate]; omega)
    have ev : bitsI .xor .u8 (bitsI .xor .u8 (a[i].toNat : Int) (b[i].toNat : Int)) (d[i].toNat : Int) = ((((a[i] ^^^ b[i]) ^^^ d[i]).toNat : Nat) : Int) := by
      rw [u8bv, u8bv, u8bv, xor8, xor8]
      rfl
    refine ⟨p1, e1, by omega, by omega, _, by rw [Int.toNat_natCast, Nat.mul_one]; exact k1, p2, e2, by omega, by omega, _, by rw [Int.toNat_natCast, Nat.mul_one]; exact k2, p3, e3, by omega, by omega, _, by rw [Int.toNat_natCast, Nat.mul_one]; exact k3, _, rfl, by omega, by omega, ?_, ?_, ?_⟩
    · rw [Int.toNat_natCast, Nat.mul_one, add_g]; exact t1
    · rw [Int.toNat_natCast, Nat.mul_one, add_g]; exact t2
    · rw [Int.toNat_natCast, Nat.mul_one, add_g, ev, IntWalk.i64_in ((i : Int) + 1) (by omega)]
      have o5 := o4.set i (.int .u8 ((((a[i] ^^^ b[i]) ^^^ d[i]).toNat : Nat) : Int))
      have hset : (bvs ((xor3 a b d).take i ++ List.replicate (n - i) 0)).set i (.int .u8 ((((a[i] ^^^ b[i]) ^^^ d[i]).toNat : Nat) : Int)) = bvs ((xor3 a b d).take (i + 1) ++ List.replicate (n - (i + 1)) 0) := by
        rw [u8_set _ _ _ (by have := ((a[i] ^^^ b[i]) ^^^ d[i]).toNat_lt; omega)]
        congr 1
        refine (List.set_append_right (s := (xor3 a b d).take i) (t := List.replicate (n - i) 0) i _ (by rw [List.length_take]; omega)).trans ?_
        rw [List.take_add_one, hx3]
        have h0 : i - ((xor3 a b d).take i).length = 0 := by rw [List.length_take]; omega
        rw [h0, show n - i = (n - (i + 1)) + 1 by omega, List.replicate_succ, List.set_cons_zero]
        simp
      rw [hset] at o5
      refine ⟨⟨i + 1, rfl, by omega, o5, g4.trans' ((Fr.setCell (F := fun k => k = q) w4 (p := ⟨q, i, none⟩) rfl _).bel fun k e => by subst e; exact s1)⟩, by dsimp only; omega⟩
  · have : i = n := by omega
    subst this
    have efin : (xor3 a b d).take i ++ List.replicate (i - i) 0 = xor3 a b d := by
      rw [List.take_of_length_le (by omega), Nat.sub_self, List.replicate_zero, List.append_nil]
    rw [efin] at o4
    refine cT rfl ?_
    generalize w3.drew = w4 at o4 g4 ⊢
    rw [Int.toNat_natCast, Nat.sub_zero, slAddr_zero, slAddr_zero, slAddr_zero]
    refine ⟨by omega, by omega, by omega, by omega, by omega, by omega, ?_⟩
    have k1 := sum_ok (c := c1 - 0) (rx.new g4) (by omega)
    have k2 := sum_ok (c := c2 - 0) (ry.new g4) (by omega)
    have k3 := sum_ok (c := c3 - 0) (rz.new g4) (by omega)
    have k4 := sum_ok (c := i) o4.rd (by omega)
    rw [lx] at k1
    rw [ly] at k2
    rw [lz] at k3
    rw [hxor] at k4
    refine k1.use ?_
    rintro v _ ⟨rfl, rfl⟩
    refine ⟨_, rfl, k2.use ?_⟩
    rintro v _ ⟨rfl, rfl⟩
    refine ⟨_, rfl, k3.use ?_⟩
    rintro v _ ⟨rfl, rfl⟩
    refine ⟨_, rfl, k4.use ?_⟩
    rintro v _ ⟨rfl, rfl⟩
    refine ⟨_, rfl, ?_, g4.top⟩
    rw [xor16, xor16, hsum, decide_eq_true rfl]
end
end Go.Proofs
