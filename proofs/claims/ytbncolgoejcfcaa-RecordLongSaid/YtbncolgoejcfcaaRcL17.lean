/- The laws of records: cuts, and back. -/
import Derived.Test.YtbncolgoejcfcaaRcK17
set_option linter.unusedVariables false
namespace Go.Proofs
open Go Go.Eng
theorem pkrb_len {x : Rc} (h : right x) : 1 ≤ (pk (rb x)).length ∧ (pk (rb x)).length ≤ 200 := by
  have h1 := rb_len h
  have h2 := rb_le h
  have h3 : 4 ≤ (rb x).length := by rw [h1]; split <;> (try split) <;> (try split) <;> omega
  rw [pk_length]; omega
theorem cut_k2 {x : Rc} (hr : right x) {A : Option Addr} {c : Nat} {w w0 : World} (f : Fr none1 w0 w) (o : Own w 5 1 (bw w0.heap.size w) A (pk (rb x)).length c (bvs (pk (rb x)))) {cut b : Nat} (hcut : cut < 256) (hb : b < 256) :
    S7_k2 (cut : Int) (b : Int) true A (pk (rb x)).length c w fun v w' => v = .bool true ∧ Fr none1 w0 w' := by
  obtain ⟨l1, l2⟩ := pkrb_len hr
  have hc : (pk (rb x)).length ≤ c := o.le
  have em : Int.tmod (IntKind.i64.wrap (cut : Int)) ((pk (rb x)).length : Int) = ((cut % (pk (rb x)).length : Nat) : Int) := by
    rw [IntWalk.i64_in _ (by omega)]; rfl
  have hlt : cut % (pk (rb x)).length < (pk (rb x)).length := Nat.mod_lt _ (by omega)
  unfold S7_k2
  rw [em, Int.toNat_natCast]
  generalize hm : cut % (pk (rb x)).length = m at hlt
  refine ⟨by omega, by omega, by omega, ?_⟩
  have h1 : Rd w (bw w0.heap.size w) (slAddr A c 0 1) (bvs ((pk (rb x)).take m)) := by
    have := o.rd.sub (m := c) (lo := 0) (hi := m) (by rw [List.length_take]; omega)
    rwa [List.drop_zero] at this
  have el : ((pk (rb x)).take m).length = m - 0 := by rw [List.length_take]; omega
  have ht := take_ok (c := c - 0) h1 (by omega)
  rw [el] at ht
  refine ht.use ?_
  rintro v w1 ⟨rfl, f1⟩
  have e1 := cut_none hr hlt
  rw [e1]
  obtain ⟨a0, a1, a2, a3, a4, a5, w2, e2, _, f2⟩ := rstore w1 rc0
  refine ⟨_, _, _, _, _, _, _, rfl, a0.1, a0.2, a1.1, a1.2, a2.1, a2.2, a3.1, a3.2, a4.1, a4.2, a5.1, a5.2, ?_⟩
  unfold rc0 at e2
  simp only at e2
  unfold rc0
  simp only
  rw [e2]
  have f12 := f1.trans' f2
  have o2 := o.fr f12 fun _ _ _ h => h
  obtain ⟨A3, c3, w3, r3, o3, f3⟩ := dupl0 (ty := 24) (c2 := c) Eby (m := (pk (rb x)).length) (by rw [bvs_length]; omega) o2.rd (bvs_one _) (by omega) (by simp only [maxLen]; omega)
  refine ⟨A3, _, c3, w3, r3, ?_⟩
  have o3' : Own w3 5 1 (bw w2.heap.size w3) A3 (pk (rb x)).length c3 (bvs (pk (rb x))) := o3.mono fun k hk h => ⟨h, hk⟩
  obtain ⟨A4, c4, w4, r4, o4, _, f4⟩ := app1 (ty := 24) Eby o3' f3.size (.int .u8 (b : Int)) rfl (by omega) (by simp only [maxLen]; omega)
  refine ⟨A4, _, c4, w4, r4, ?_⟩
  have eb : bvs (pk (rb x)) ++ [Value.int .u8 (b : Int)] = bvs (pk (rb x) ++ [UInt8.ofNat b]) := by
    unfold bvs bv
    rw [List.map_append]
    simp [Nat.mod_eq_of_lt hb]
  rw [eb] at o4
  have e5 : (pk (rb x)).length + 1 = (pk (rb x) ++ [UInt8.ofNat b]).length := by simp
  rw [e5] at o4 ⊢
  refine (take_ok (c := c4) o4.rd (by rw [← e5]; omega)).use ?_
  rintro v w5 ⟨rfl, f5⟩
  rw [behind_none hr]
  obtain ⟨a0, a1, a2, a3, a4, a5, w6, e6, _, f6⟩ := rstore w5 rc0
  refine ⟨_, _, _, _, _, _, _, rfl, a0.1, a0.2, a1.1, a1.2, a2.1, a2.2, a3.1, a3.2, a4.1, a4.2, a5.1, a5.2, ?_⟩
  unfold rc0 at e6
  simp only at e6
  unfold rc0
  simp only
  rw [e6]
  have f24 : Fr none1 w2 w4 := (f3.bel0.trans' f4).top
  exact cT rfl (cT rfl ⟨rfl, f.trans' (f12.trans' (f24.trans' (f5.trans' f6)))⟩)
theorem recordCut_ok (x : Rc) {cut b : Nat} (hcut : cut < 256) (hb : b < 256) (w : World) : Ret Try.prog 7 [rval x, .int .u8 (cut : Int), .int .u8 (b : Int)] w fun v w' => v = .bool true ∧ Fr none1 w w' := by
  apply S7_calls
  have b0 : RcB (w.alloc (.cells ⟨rcell x⟩ 23)) w.heap.size x := Blk.new w 23 (rcell x)
  have f0 : Fr none1 w (w.alloc (.cells ⟨rcell x⟩ 23)) := Fr.alloc _ _
  unfold S7
  generalize hw1 : w.alloc (.cells ⟨[.int .u8 x.k, .int .i64 x.i, .int .i64 x.r, .int .i64 x.p, .int .i64 x.c, .int .i64 x.q]⟩ 23) = w1
  have hw1' : w.alloc (.cells ⟨rcell x⟩ 23) = w1 := hw1
  rw [hw1'] at b0 f0
  generalize hrr : w.heap.size = r at b0 ⊢
  refine (shown_ok w1).use ?_
  rintro v w2 ⟨rfl, f2⟩
  have b2 := Blk.fr b0 f2 fun h => h
  refine ⟨_, rfl, _, RcB.c0 b2, _, RcB.c1 b2, _, RcB.c2 b2, _, RcB.c3 b2, _, RcB.c4 b2, _, RcB.c5 b2, ?_⟩
  refine (right_ok x w2).use ?_
  rintro v w3 ⟨rfl, f3⟩
  have b3 := Blk.fr b2 f3 fun h => h
  have f03 := f0.trans' (f2.trans' f3)
  refine ⟨_, rfl, ?_⟩
  by_cases hr : right x
  · rw [decide_eq_true hr]
    refine cF rfl ⟨_, RcB.c0 b3, _, RcB.c1 b3, _, RcB.c2 b3, _, RcB.c3 b3, _, RcB.c4 b3, _, RcB.c5 b3, ?_⟩
    refine (lay_ok x w3).use ?_
    rintro v w4 ⟨A1, c1, rfl, o1, f4⟩
    have el : layV x = (pk (rb x), 0) := if_pos hr
    rw [el] at o1 ⊢
    have hl := pkrb_len hr
    have hs := f03.size
    refine ⟨_, _, _, _, rfl, cF rfl (cF ?_ (cut_k2 hr (f03.trans' f4) (o1.mono fun k hk h => ⟨by have := h.1; omega, hk⟩) hcut hb))⟩
    rw [decide_eq_false]
    show ¬ (((pk (rb x)).length : Nat) : Int) = 0
    omega
  · rw [decide_eq_false hr]
    exact cT rfl ⟨rfl, f03⟩
theorem back_k2 {xs : Bs} {A : Option Addr} {c : Nat} {ok : Nat → Prop} {w w0 : World} (f : Fr none1 w0 w) (h : Rd w ok A (bvs xs)) (hm : xs.length ≤ 1000) : S6_k2 A xs.length c true w fun v w' => v = .bool true ∧ Fr none1 w0 w' := by
  unfold S6_k2
  refine (take_ok (c := c) h (by omega)).use ?_
  rintro v w1 ⟨rfl, f1⟩
  obtain ⟨a0, a1, a2, a3, a4, a5, w2, e2, x2, f2⟩ := rstore w1 (takeV xs).1
  refine ⟨_, _, _, _, _, _, _, rfl, a0.1, a0.2, a1.1, a1.2, a2.1, a2.2, a3.1, a3.2, a4.1, a4.2, a5.1, a5.2, ?_⟩
  rw [e2]
  refine ⟨_, RcB.c0 x2, _, RcB.c1 x2, _, RcB.c2 x2, _, RcB.c3 x2, _, RcB.c4 x2, _, RcB.c5 x2, ?_⟩
  refine (lay_ok (takeV xs).1 w2).use ?_
  rintro v w3 ⟨A3, c3, rfl, o3, f3⟩
  have x3 := Blk.fr x2 f3 fun h => h
  have f03 := f.trans' (f1.trans' (f2.trans' f3))
  have h3 := h.fr (f1.trans' (f2.trans' f3)) fun _ _ _ h => h
  refine ⟨_, _, _, _, rfl, cT rfl ?_⟩
  rcases takeV_or xs with ⟨y, e⟩ | e
  · obtain ⟨hr, hp, _⟩ := lay_take e
    have el : layV (takeV xs).1 = (xs, 0) := by rw [e]; show layV y = _; unfold layV; rw [if_pos hr, hp]
    rw [el] at o3 ⊢
    rw [e]
    exact cT rfl (cT rfl ⟨_, w3, run_toString Uby Uu8 Ustr rfl o3.rd, _, w3, run_toString Uby Uu8 Ustr rfl h3, cT (decide_eq_true rfl) ⟨rfl, f03⟩⟩)
  · rw [e] at x3 ⊢
    refine cF rfl (cT rfl ⟨_, RcB.c0 x3, _, RcB.c1 x3, _, RcB.c2 x3, _, RcB.c3 x3, _, RcB.c4 x3, _, RcB.c5 x3, _, w3, rec_eq rc0 rc0 _ _ w3, by rw [decide_eq_true rfl], f03⟩)
theorem recordBack_ok (x : Rc) {w : World} {A : Option Addr} {c : Nat} {xs : Bs} {ok : Nat → Prop} (h : Rd w ok A (bvs xs)) : Ret Try.prog 6 [rval x, .slice A xs.length c] w fun v w' => v = .bool true ∧ Fr none1 w w' := by
  apply S6_calls
  have b0 : RcB (w.alloc (.cells ⟨rcell x⟩ 23)) w.heap.size x := Blk.new w 23 (rcell x)
  have f0 : Fr none1 w (w.alloc (.cells ⟨rcell x⟩ 23)) := Fr.alloc _ _
  unfold S6
  generalize hw1 : w.alloc (.cells ⟨[.int .u8 x.k, .int .i64 x.i, .int .i64 x.r, .int .i64 x.p, .int .i64 x.c, .int .i64 x.q]⟩ 23) = w1
  have hw1' : w.alloc (.cells ⟨rcell x⟩ 23) = w1 := hw1
  rw [hw1'] at b0 f0
  generalize hrr : w.heap.size = r at b0 ⊢
  refine (shown_ok w1).use ?_
  rintro v w2 ⟨rfl, f2⟩
  have b2 := Blk.fr b0 f2 fun h => h
  refine ⟨_, rfl, cD (fun _ => ⟨rfl, f0.trans' f2⟩) (fun hl => ?_)⟩
  refine ⟨_, RcB.c0 b2, _, RcB.c1 b2, _, RcB.c2 b2, _, RcB.c3 b2, _, RcB.c4 b2, _, RcB.c5 b2, ?_⟩
  refine (lay_ok x w2).use ?_
  rintro v w3 ⟨A3, c3, rfl, o3, f3⟩
  have b3 := Blk.fr b2 f3 fun h => h
  refine ⟨_, _, _, _, rfl, ?_⟩
  have hlen : (layV x).1.length ≤ 200 := by
    unfold layV; split
    · rename_i hr; exact (pkrb_len hr).2
    · simp
  refine (take_ok (c := c3) o3.rd (by omega)).use ?_
  rintro v w4 ⟨rfl, f4⟩
  obtain ⟨a0, a1, a2, a3, a4, a5, w5, e5, x5, f5⟩ := rstore w4 (takeV (layV x).1).1
  refine ⟨_, _, _, _, _, _, _, rfl, a0.1, a0.2, a1.1, a1.2, a2.1, a2.2, a3.1, a3.2, a4.1, a4.2, a5.1, a5.2, ?_⟩
  rw [e5]
  have b5 := Blk.fr (Blk.fr b3 f4 fun h => h) f5 fun h => h
  refine ⟨_, RcB.c0 b5, _, RcB.c1 b5, _, RcB.c2 b5, _, RcB.c3 b5, _, RcB.c4 b5, _, RcB.c5 b5, ?_⟩
  refine (right_ok x w5).use ?_
  rintro v w6 ⟨rfl, f6⟩
  have b6 := Blk.fr b5 f6 fun h => h
  have x6 := Blk.fr x5 f6 fun h => h
  have f06 := f0.trans' (f2.trans' (f3.trans' (f4.trans' (f5.trans' f6))))
  have k2 := back_k2 (c := c) f06 (h.fr f06 fun _ _ _ h => h) (by omega : xs.length ≤ 1000)
  refine ⟨_, rfl, ?_⟩
  by_cases hr : right x
  · have el : layV x = (pk (rb x), 0) := if_pos hr
    rw [el] at x6 ⊢
    have et : takeV (pk (rb x)) = (x, 0) := take_lay hr
    simp only [et] at x6 ⊢
    rw [decide_eq_true hr]
    refine cF rfl (cT rfl (cF rfl ⟨_, RcB.c0 x6, _, RcB.c1 x6, _, RcB.c2 x6, _, RcB.c3 x6, _, RcB.c4 x6, _, RcB.c5 x6, _, RcB.c0 b6, _, RcB.c1 b6, _, RcB.c2 b6, _, RcB.c3 b6, _, RcB.c4 b6, _, RcB.c5 b6, _, w6, rec_ne x x _ _ w6, cF (by rw [decide_eq_true rfl]; rfl) (cF rfl (cF rfl k2))⟩))
  · have el : layV x = ([], 1) := if_neg hr
    rw [el] at x6 ⊢
    rw [decide_eq_false hr]
    exact cF rfl (cF rfl (cT rfl (cF rfl k2)))
end Go.Proofs
