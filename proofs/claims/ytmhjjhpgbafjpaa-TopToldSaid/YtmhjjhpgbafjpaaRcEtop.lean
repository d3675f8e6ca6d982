/- The record whose bytes those are: contracts of the program and of the reference. -/
import Derived.Test.YtmhjjhpgbafjpaaRcDtop
set_option linter.unusedVariables false
namespace Go.Proofs
open Go Go.Eng
theorem getV_lt (s : Rs) {m : Nat} : getV s (m : Int) < 2 ^ m := by
  unfold getV
  split
  · have h := vl_lt ((s.L.drop s.i).take ((m : Int).toNat))
    have hl : ((s.L.drop s.i).take ((m : Int).toNat)).length ≤ m := by rw [List.length_take]; omega
    exact Nat.lt_of_lt_of_le h (Nat.pow_le_pow_right (by decide) hl)
  · exact Nat.two_pow_pos m
theorem getS_L (s : Rs) (m : Int) : (getS s m).L = s.L := by unfold getS; split <;> rfl
theorem rcS_L (s : Rs) : (rcS s).L = s.L := by unfold rcS; split <;> rfl
theorem rcV_le (s : Rs) : rcV s + 1 < 2 ^ 64 := by
  by_cases e : rcE s = 0
  · have hk : zs (s.L.drop s.i) ≤ 63 := by
      unfold rcE at e
      split at e
      · rename_i h; exact absurd e h
      · split at e
        · cases e
        · omega
    unfold rcV
    rw [if_pos e]
    have h := vl_lt ((s.L.drop (s.i + zs (s.L.drop s.i))).take (zs (s.L.drop s.i) + 1))
    have hl : ((s.L.drop (s.i + zs (s.L.drop s.i))).take (zs (s.L.drop s.i) + 1)).length ≤ 64 := by rw [List.length_take]; omega
    have h2 : (2 : Nat) ^ ((s.L.drop (s.i + zs (s.L.drop s.i))).take (zs (s.L.drop s.i) + 1)).length ≤ 2 ^ 64 := Nat.pow_le_pow_right (by decide) hl
    omega
  · unfold rcV; rw [if_neg e]; decide
/-- What Take answers. -/
def TakeP (w : World) (b : Bs) (v : Value) (w' : World) : Prop := v = .tuple ⟨[rval (takeV b).1, .int .i64 (takeV b).2]⟩ ∧ Fr none1 w w'
/-- The state while a record is taken: the reader, the variable of it, the record, the place of the answer. -/
structure TkS (w0 : World) (rd rv xb t2 : Nat) (xs : Bs) (s : Rs) (x : Rc) (w : World) : Prop where
  rdr : ∃ ok, RdrAt w ok rd xs s.i s.E ∧ ∀ k, ok k → k ≠ rv ∧ k ≠ xb ∧ k ≠ t2 ∧ w0.heap.size ≤ k
  L : s.L = up8 xs
  var : Blk w rv 99 [.pointer (some ⟨rd, 0, none⟩)]
  recd : RcB w xb x
  out : ∃ y, RcB w t2 y
  ne : xb ≠ t2
  low : w0.heap.size ≤ xb ∧ w0.heap.size ≤ t2
  bel : Bel w0.heap.size w0 w
section
variable {w0 w : World} {rd rv xb t2 : Nat} {xs : Bs} {s : Rs} {x : Rc}
theorem TkS.eta (h : TkS w0 rd rv xb t2 xs s x w) : s = ⟨up8 xs, s.i, s.E⟩ := by
  have := h.L
  cases s
  simp only at this
  subst this
  rfl
theorem TkS.op (h : TkS w0 rd rv xb t2 xs s x w) {f : Nat} {args : List Value} {Q : Value → Prop} {s' : Rs} (hL : s'.L = up8 xs)
    (hc : ∀ ok, RdrAt w ok rd xs s.i s.E → Ret Try.prog f args w fun v w' => Q v ∧ RdrAt w' ok rd xs s'.i s'.E ∧ Fr (fun k => k = rd) w w') : Ret Try.prog f args w fun v w' => Q v ∧ TkS w0 rd rv xb t2 xs s' x w' := by
  obtain ⟨ok, h1, h2⟩ := h.rdr
  obtain ⟨n1, n2, n3, n4⟩ := h2 rd h1.1
  obtain ⟨y, hy⟩ := h.out
  refine (hc ok h1).imp fun v w' ⟨q, k1, f⟩ => ⟨q, ⟨⟨ok, k1, h2⟩, hL, h.var.fr f (Ne.symm n1), Blk.fr h.recd f (Ne.symm n2), ⟨y, Blk.fr hy f (Ne.symm n3)⟩, h.ne, h.low, h.bel.trans' (f.bel fun k e => by subst e; exact n4)⟩⟩
theorem TkS.get (h : TkS w0 rd rv xb t2 xs s x w) (m : Nat) : Ret Try.prog 52 [.pointer (some ⟨rd, 0, none⟩), .int .i64 (m : Int)] w fun v w' => v = .int .u64 ((g1 s m).v : Int) ∧ TkS w0 rd rv xb t2 xs (g1 s m).s x w' := by
  have e := h.eta
  refine h.op (s' := (g1 s m).s) (by unfold g1; rw [getS_L]; exact h.L) fun ok hr => ?_
  have hg := get_ok hr (m : Int)
  rw [← e] at hg
  exact hg
theorem TkS.count (h : TkS w0 rd rv xb t2 xs s x w) : Ret Try.prog 53 [.pointer (some ⟨rd, 0, none⟩)] w fun v w' => v = .int .u64 ((c1 s).v : Int) ∧ TkS w0 rd rv xb t2 xs (c1 s).s x w' := by
  have e := h.eta
  refine h.op (s' := (c1 s).s) (by unfold c1; rw [rcS_L]; exact h.L) fun ok hr => ?_
  have hg := rcount_ok hr
  rw [← e] at hg
  exact hg
theorem TkS.fin (h : TkS w0 rd rv xb t2 xs s x w) : Ret Try.prog 54 [.pointer (some ⟨rd, 0, none⟩)] w fun v w' => v = .int .i64 (endV s) ∧ TkS w0 rd rv xb t2 xs s x w' := by
  have e := h.eta
  refine h.op (s' := s) h.L fun ok hr => ?_
  have hg := end_ok hr
  rw [← e] at hg
  exact hg.imp fun v w' ⟨a, b, c⟩ => ⟨a, b, c.mono fun _ _ h => h.elim⟩
theorem TkS.take1 (h : TkS w0 rd rv xb t2 xs s x w) {m : Nat} (hm : m ≤ 8) : Ret Try.prog 51 [.int .i64 (m : Int), .pointer (some ⟨rv, 0, none⟩)] w fun v w' => v = .int .i64 ((g1 s m).v : Int) ∧ TkS w0 rd rv xb t2 xs (g1 s m).s x w' := by
  apply S51_calls
  refine ⟨_, (h.var.cell 0).trans rfl, ?_⟩
  refine (h.get m).use ?_
  rintro v w1 ⟨rfl, h1⟩
  have hlt : (g1 s m).v < 2 ^ m := getV_lt s
  have hp : 2 ^ m ≤ 2 ^ 8 := Nat.pow_le_pow_right (by decide) hm
  exact ⟨_, rfl, by rw [IntWalk.i64_in _ (by omega)], h1⟩
theorem TkS.fr0 (h : TkS w0 rd rv xb t2 xs s x w) {w' : World} (f : Fr none1 w w') : TkS w0 rd rv xb t2 xs s x w' := by
  obtain ⟨ok, h1, h2⟩ := h.rdr
  obtain ⟨y, hy⟩ := h.out
  exact ⟨⟨ok, h1.fr f fun _ _ _ h => h, h2⟩, h.L, h.var.fr f (fun h => h), Blk.fr h.recd f (fun h => h), ⟨y, Blk.fr hy f (fun h => h)⟩, h.ne, h.low, h.bel.trans' f.bel0⟩
theorem TkS.set (h : TkS w0 rd rv xb t2 xs s x w) {j : Nat} (hj : j < 6) {u : Value} {x' : Rc} (hx : rcell x' = (rcell x).set j u) :
    ((∃ v, w.cell? ⟨xb, j, none⟩ = some v) ∧ w.frozen? ⟨xb, j, none⟩ = false) ∧ TkS w0 rd rv xb t2 xs s x' (w.setCell ⟨xb, j, none⟩ u) := by
  obtain ⟨ok, h1, h2⟩ := h.rdr
  obtain ⟨y, hy⟩ := h.out
  obtain ⟨k1, k2, f⟩ := Blk.wr1 h.recd j hj u
  rw [← hx] at k2
  exact ⟨k1, ⟨ok, h1.fr f fun k _ hk => (h2 k hk).2.1, h2⟩, h.L, h.var.fr f (fun e => by subst e; exact Blk.ne h.var h.recd (by decide) rfl), k2, ⟨y, Blk.fr hy f (Ne.symm h.ne)⟩, h.ne, h.low, h.bel.trans' (f.bel fun k e => by subst e; exact h.low.1)⟩
/-- The answer is written and read. -/
theorem TkS.done (h : TkS w0 rd rv xb t2 xs s x w) (z : Rc) : ∀ w', w' = ((((((w.setCell ⟨t2, 0, none⟩ (.int .u8 z.k)).setCell ⟨t2, 1, none⟩ (.int .i64 z.i)).setCell ⟨t2, 2, none⟩ (.int .i64 z.r)).setCell ⟨t2, 3, none⟩ (.int .i64 z.p)).setCell ⟨t2, 4, none⟩ (.int .i64 z.c)).setCell ⟨t2, 5, none⟩ (.int .i64 z.q)) → RcB w' t2 z ∧ Fr none1 w0 w' := by
  rintro w' rfl
  obtain ⟨y, hy⟩ := h.out
  obtain ⟨_, _, _, _, _, _, k, f⟩ := Blk.wr6 hy (.int .u8 z.k) (.int .i64 z.i) (.int .i64 z.r) (.int .i64 z.p) (.int .i64 z.c) (.int .i64 z.q)
  exact ⟨k, (h.bel.trans' (f.bel fun k e => by subst e; exact h.low.2)).top⟩
theorem take_k3 (h : TkS w0 rd rv xb t2 xs s x w) (bad : Bool) (ht : takeV xs = if bad then (rc0, 170) else (x, 0)) : S13_k3 ⟨t2, 0, none⟩ ⟨xb, 0, none⟩ bad w (TakeP w0 xs) := by
  obtain ⟨y, hy⟩ := h.out
  cases bad with
  | true =>
    obtain ⟨⟨a0, b0⟩, ⟨a1, b1⟩, ⟨a2, b2⟩, ⟨a3, b3⟩, ⟨a4, b4⟩, ⟨a5, b5⟩, _⟩ := Blk.wr6 hy (.int .u8 0) (.int .i64 0) (.int .i64 0) (.int .i64 0) (.int .i64 0) (.int .i64 0)
    obtain ⟨k, f⟩ := h.done rc0 _ rfl
    refine cT rfl ⟨a0, b0, a1, b1, a2, b2, a3, b3, a4, b4, a5, b5, _, k.c0, _, k.c1, _, k.c2, _, k.c3, _, k.c4, _, k.c5, ?_, f⟩
    rw [ht]; rfl
  | false =>
    obtain ⟨⟨a0, b0⟩, ⟨a1, b1⟩, ⟨a2, b2⟩, ⟨a3, b3⟩, ⟨a4, b4⟩, ⟨a5, b5⟩, _⟩ := Blk.wr6 hy (.int .u8 x.k) (.int .i64 x.i) (.int .i64 x.r) (.int .i64 x.p) (.int .i64 x.c) (.int .i64 x.q)
    obtain ⟨k, f⟩ := h.done x _ rfl
    have hr := h.recd
    refine cF rfl ⟨_, hr.c0, _, hr.c1, _, hr.c2, _, hr.c3, _, hr.c4, _, hr.c5, a0, b0, a1, b1, a2, b2, a3, b3, a4, b4, a5, b5, _, k.c0, _, k.c1, _, k.c2, _, k.c3, _, k.c4, _, k.c5, ?_, f⟩
    rw [ht]; rfl
theorem take_k2 (h : TkS w0 rd rv xb t2 xs s x w) (hx : rdRec ⟨up8 xs, 0, 0⟩ = (x, s)) : S13_k2 ⟨t2, 0, none⟩ ⟨rv, 0, none⟩ ⟨xb, 0, none⟩ w (TakeP w0 xs) := by
  refine ⟨_, (h.var.cell 0).trans rfl, ?_⟩
  refine h.fin.use ?_
  rintro v w1 ⟨rfl, h1⟩
  have ht : takeV xs = if endV s ≠ 0 ∨ ¬ right x then (rc0, 170) else (x, 0) := by unfold takeV; rw [hx]
  refine ⟨_, rfl, cN (fun he => take_k3 h1 true (by rw [ht, if_pos (.inl he)]; rfl)) fun he => ?_⟩
  have hr := h1.recd
  refine ⟨_, hr.c0, _, hr.c1, _, hr.c2, _, hr.c3, _, hr.c4, _, hr.c5, ?_⟩
  refine (right_ok x w1).use ?_
  rintro v w2 ⟨rfl, f2⟩
  refine ⟨_, rfl, take_k3 (h1.fr0 f2) _ ?_⟩
  rw [ht]
  by_cases hh : right x
  · rw [decide_eq_true hh, if_neg (by rintro (h | h); exact h he; exact h hh)]; rfl
  · rw [decide_eq_false hh, if_pos (.inr hh)]; rfl
theorem take_k1 (h : TkS w0 rd rv xb t2 xs s x w) (hz : x.p = 0 ∧ x.c = 0 ∧ x.q = 0) (hx : rdRec ⟨up8 xs, 0, 0⟩ = (⟨x.k, x.i, x.r, ((rdM s x.k).1 : Int), ((rdM s x.k).2.1 : Int), ((rdM s x.k).2.2.1 : Int)⟩, (rdM s x.k).2.2.2)) :
    S13_k1 ⟨t2, 0, none⟩ ⟨rv, 0, none⟩ ⟨rv, 0, none⟩ ⟨xb, 0, none⟩ (fld x.k) w (TakeP w0 xs) := by
  unfold S13_k1
  rw [fldM, Bool.not_not]
  unfold rdM at hx
  refine cB (fun hM => ?_) (fun hM => ?_)
  · rw [hM] at hx
    simp only [if_true] at hx
    refine (h.take1 (m := 6) (by decide)).use ?_
    rintro v w1 ⟨rfl, h1⟩
    refine ⟨_, rfl, ?_⟩
    refine (h1.take1 (m := 8) (by decide)).use ?_
    rintro v w2 ⟨rfl, h2⟩
    refine ⟨_, rfl, ?_⟩
    refine (h2.take1 (m := 3) (by decide)).use ?_
    rintro v w3 ⟨rfl, h3⟩
    obtain ⟨⟨a1, b1⟩, h4⟩ := h3.set (j := 3) (by decide) (u := .int .i64 ((g1 s 6).v : Int)) (x' := ⟨x.k, x.i, x.r, ((g1 s 6).v : Int), x.c, x.q⟩) rfl
    obtain ⟨⟨a2, b2⟩, h5⟩ := h4.set (j := 4) (by decide) (u := .int .i64 ((g1 (g1 s 6).s 8).v : Int)) (x' := ⟨x.k, x.i, x.r, ((g1 s 6).v : Int), ((g1 (g1 s 6).s 8).v : Int), x.q⟩) rfl
    obtain ⟨⟨a3, b3⟩, h6⟩ := h5.set (j := 5) (by decide) (u := .int .i64 ((g1 (g1 (g1 s 6).s 8).s 3).v : Int)) (x' := ⟨x.k, x.i, x.r, ((g1 s 6).v : Int), ((g1 (g1 s 6).s 8).v : Int), ((g1 (g1 (g1 s 6).s 8).s 3).v : Int)⟩) rfl
    exact ⟨_, rfl, a1, b1, a2, b2, a3, b3, take_k2 h6 hx⟩
  · rw [hM] at hx
    simp only [Bool.false_eq_true, if_false] at hx
    refine take_k2 h ?_
    rw [hx]
    obtain ⟨z1, z2, z3⟩ := hz
    cases x
    simp only at z1 z2 z3
    subst z1 z2 z3
    rfl
theorem take_k0 (h : TkS w0 rd rv xb t2 xs s x w) (hz : x.r = 0 ∧ x.p = 0 ∧ x.c = 0 ∧ x.q = 0) (hx : rdRec ⟨up8 xs, 0, 0⟩ = (⟨x.k, x.i, ((rdR s x.k).v : Int), ((rdM (rdR s x.k).s x.k).1 : Int), ((rdM (rdR s x.k).s x.k).2.1 : Int), ((rdM (rdR s x.k).s x.k).2.2.1 : Int)⟩, (rdM (rdR s x.k).s x.k).2.2.2)) :
    S13_k0 ⟨t2, 0, none⟩ ⟨rv, 0, none⟩ ⟨rv, 0, none⟩ ⟨xb, 0, none⟩ (fld x.k) w (TakeP w0 xs) := by
  unfold S13_k0
  rw [fldR, Bool.not_not]
  unfold rdR at hx
  refine cB (fun hR => ?_) (fun hR => ?_)
  · rw [hR] at hx
    simp only [if_true] at hx
    refine (h.take1 (m := 3) (by decide)).use ?_
    rintro v w1 ⟨rfl, h1⟩
    obtain ⟨⟨a1, b1⟩, h2⟩ := h1.set (j := 2) (by decide) (u := .int .i64 ((g1 s 3).v : Int)) (x' := ⟨x.k, x.i, ((g1 s 3).v : Int), x.p, x.c, x.q⟩) rfl
    exact ⟨_, rfl, a1, b1, take_k1 (x := ⟨x.k, x.i, ((g1 s 3).v : Int), x.p, x.c, x.q⟩) h2 hz.2 hx⟩
  · rw [hR] at hx
    simp only [Bool.false_eq_true, if_false] at hx
    refine take_k1 h hz.2 ?_
    rw [hx, hz.1]
    rfl
end
theorem take_ok {w : World} {A : Option Addr} {c : Nat} {xs : Bs} {ok : Nat → Prop} (h : Rd w ok A (bvs xs)) (hm : xs.length ≤ 1000000) : Ret Try.prog 13 [.slice A xs.length c] w (TakeP w xs) := by
  apply S13_calls
  have bt := Blk.new w 33 (rcell rc0)
  have f0 : Fr none1 w (w.alloc (.cells ⟨rcell rc0⟩ 33)) := Fr.alloc _ _
  have hlt := bt.lt
  unfold S13
  generalize hw1 : w.alloc (.cells ⟨[.int .u8 0, .int .i64 0, .int .i64 0, .int .i64 0, .int .i64 0, .int .i64 0]⟩ 33) = w1
  have hw1' : w.alloc (.cells ⟨rcell rc0⟩ 33) = w1 := hw1
  rw [hw1'] at bt f0 hlt
  refine (rnew_ok (c := c) (h.fr f0 fun _ _ _ h => h) hm).use ?_
  rintro v w2 ⟨rd, rfl, h2, f2⟩
  refine ⟨_, rfl, ?_⟩
  have bv := Blk.new w2 99 [.pointer none]
  have f3 : Fr none1 w2 (w2.alloc (.cells ⟨[.pointer none]⟩ 99)) := Fr.alloc _ _
  obtain ⟨⟨s1, s2⟩, bv2, f4⟩ := bv.wr1 0 (by simp) (.pointer (some ⟨rd, 0, none⟩))
  refine ⟨s1, s2, ?_⟩
  have hs0 := f0.size
  have hs2 := f2.size
  have h4 := (h2.fr f3 fun _ _ _ h => h).fr f4 fun k _ hk e => by have := hk.2; omega
  have bt4 := ((bt.fr f2 fun h => h).fr f3 fun h => h).fr f4 fun e => by omega
  have f24 : Fr none1 w2 ((w2.alloc (.cells ⟨[.pointer none]⟩ 99)).setCell ⟨w2.heap.size, 0, none⟩ (.pointer (some ⟨rd, 0, none⟩))) := f3.trans f4 fun k hk e => by subst e; omega
  have hv4 := bv2.lt
  generalize (w2.alloc (.cells ⟨[.pointer none]⟩ 99)).setCell ⟨w2.heap.size, 0, none⟩ (.pointer (some ⟨rd, 0, none⟩)) = w4 at h4 bt4 f24 bv2 hv4 ⊢
  -- the first three bits are taken ahead of the record's place: a place that is none stands for it
  have fw4 : Fr none1 w w4 := (f0.trans' f2).trans' f24
  have hrd : bw w1.heap.size w2 rd := h2.1
  have b1 : S51 3 ⟨w2.heap.size, 0, none⟩ w4 (fun v w' => v = .int .i64 ((g1 ⟨up8 xs, 0, 0⟩ 3).v : Int) ∧ RdrAt w' (bw w1.heap.size w2) rd xs (g1 ⟨up8 xs, 0, 0⟩ 3).s.i (g1 ⟨up8 xs, 0, 0⟩ 3).s.E ∧ Fr (fun k => k = rd) w4 w') := by
    refine ⟨_, (bv2.cell 0).trans rfl, ?_⟩
    refine (get_ok h4 3).use ?_
    rintro v w5 ⟨rfl, h5, f5⟩
    have hlt : getV ⟨up8 xs, 0, 0⟩ 3 < 2 ^ 3 := getV_lt _ (m := 3)
    exact ⟨_, rfl, by rw [IntWalk.i64_in _ (by omega)]; rfl, h5, f5⟩
  refine Ret.use (S51_calls b1) ?_
  rintro v w5 ⟨rfl, h5, f5⟩
  refine ⟨_, rfl, ?_⟩
  have hk8 : (g1 ⟨up8 xs, 0, 0⟩ 3).v < 2 ^ 3 := getV_lt _ (m := 3)
  rw [IntWalk.u8_in _ (by omega)]
  have hL : (g1 ⟨up8 xs, 0, 0⟩ 3).s.L = up8 xs := getS_L _ _
  have hrec : rdRec ⟨up8 xs, 0, 0⟩ = (⟨((g1 ⟨up8 xs, 0, 0⟩ 3).v : Int), ((min (rdI (g1 ⟨up8 xs, 0, 0⟩ 3).s ((g1 ⟨up8 xs, 0, 0⟩ 3).v : Int)).v 1073741825 : Nat) : Int), ((rdR (rdI (g1 ⟨up8 xs, 0, 0⟩ 3).s ((g1 ⟨up8 xs, 0, 0⟩ 3).v : Int)).s ((g1 ⟨up8 xs, 0, 0⟩ 3).v : Int)).v : Int), ((rdM (rdR (rdI (g1 ⟨up8 xs, 0, 0⟩ 3).s ((g1 ⟨up8 xs, 0, 0⟩ 3).v : Int)).s ((g1 ⟨up8 xs, 0, 0⟩ 3).v : Int)).s ((g1 ⟨up8 xs, 0, 0⟩ 3).v : Int)).1 : Int), ((rdM (rdR (rdI (g1 ⟨up8 xs, 0, 0⟩ 3).s ((g1 ⟨up8 xs, 0, 0⟩ 3).v : Int)).s ((g1 ⟨up8 xs, 0, 0⟩ 3).v : Int)).s ((g1 ⟨up8 xs, 0, 0⟩ 3).v : Int)).2.1 : Int), ((rdM (rdR (rdI (g1 ⟨up8 xs, 0, 0⟩ 3).s ((g1 ⟨up8 xs, 0, 0⟩ 3).v : Int)).s ((g1 ⟨up8 xs, 0, 0⟩ 3).v : Int)).s ((g1 ⟨up8 xs, 0, 0⟩ 3).v : Int)).2.2.1 : Int)⟩, (rdM (rdR (rdI (g1 ⟨up8 xs, 0, 0⟩ 3).s ((g1 ⟨up8 xs, 0, 0⟩ 3).v : Int)).s ((g1 ⟨up8 xs, 0, 0⟩ 3).v : Int)).s ((g1 ⟨up8 xs, 0, 0⟩ 3).v : Int)).2.2.2) := rfl
  generalize (g1 ⟨up8 xs, 0, 0⟩ 3).v = kk at hk8 hrec ⊢
  generalize (g1 ⟨up8 xs, 0, 0⟩ 3).s = s1 at h5 hL hrec
  have bx := Blk.new w5 33 (rcell rc0)
  have f6 : Fr none1 w5 (w5.alloc (.cells ⟨rcell rc0⟩ 33)) := Fr.alloc _ _
  obtain ⟨⟨a0, b0⟩, ⟨a1, b1⟩, ⟨a2, b2⟩, ⟨a3, b3⟩, ⟨a4, b4⟩, ⟨a5, b5⟩, bx2, f7⟩ := bx.wr6 (.int .u8 (kk : Int)) (.int .i64 0) (.int .i64 0) (.int .i64 0) (.int .i64 0) (.int .i64 0)
  refine ⟨a0, b0, a1, b1, a2, b2, a3, b3, a4, b4, a5, b5, ?_⟩
  have hs5 := f5.size
  have st : TkS w rd w2.heap.size w5.heap.size w.heap.size xs s1 ⟨(kk : Int), 0, 0, 0, 0, 0⟩ ((((((((w5.alloc (.cells ⟨rcell rc0⟩ 33)).setCell ⟨w5.heap.size, 0, none⟩ (.int .u8 (kk : Int))).setCell ⟨w5.heap.size, 1, none⟩ (.int .i64 0)).setCell ⟨w5.heap.size, 2, none⟩ (.int .i64 0)).setCell ⟨w5.heap.size, 3, none⟩ (.int .i64 0)).setCell ⟨w5.heap.size, 4, none⟩ (.int .i64 0)).setCell ⟨w5.heap.size, 5, none⟩ (.int .i64 0))) := by
    refine ⟨⟨bw w1.heap.size w2, (h5.fr f6 fun _ _ _ h => h).fr f7 fun k _ hk e => by have := hk.2; omega, fun k hk => ⟨by have := hk.2; omega, by have := hk.2; omega, by have := hk.1; omega, by have := hk.1; omega⟩⟩, hL, ?_, bx2, ⟨rc0, ?_⟩, by omega, ⟨by omega, Nat.le_refl _⟩, ?_⟩
    · exact ((bv2.fr f5 fun e => by have := hrd.2; omega).fr f6 fun h => h).fr f7 fun e => by omega
    · exact ((bt4.fr f5 fun e => by have := hrd.1; omega).fr f6 fun h => h).fr f7 fun e => by omega
    · exact fw4.bel0.trans' ((f5.bel fun k e => by subst e; have := hrd.1; omega).trans' (f6.bel0.trans' (f7.bel fun k e => by subst e; omega)))
  refine ⟨_, st.recd.c0, ?_⟩
  have hst := st
  refine (fields_ok (kk : Int) _).use ?_
  rintro v w8 ⟨rfl, hw8⟩
  have st8 : TkS w rd w2.heap.size w5.heap.size w.heap.size xs s1 ⟨(kk : Int), 0, 0, 0, 0, 0⟩ w8 := by rw [hw8]; exact st
  clear st hst hw8
  refine ⟨_, rfl, ?_⟩
  rw [fldI, Bool.not_not]
  unfold rdI at hrec
  refine cB (fun hI => ?_) (fun hI => ?_)
  · rw [hI] at hrec
    simp only [if_true] at hrec
    refine ⟨_, (st8.var.cell 0).trans rfl, ?_⟩
    refine st8.count.use ?_
    rintro v w9 ⟨rfl, h9⟩
    have hle := rcV_le s1
    have hcv : (c1 s1).v = rcV s1 := rfl
    obtain ⟨⟨p1, p2⟩, h10⟩ := h9.set (j := 1) (by decide) (u := .int .i64 ((min (c1 s1).v 1073741825 : Nat) : Int)) (x' := ⟨(kk : Int), ((min (c1 s1).v 1073741825 : Nat) : Int), 0, 0, 0, 0⟩) rfl
    have em : (if (1073741825 : Int) < ((c1 s1).v : Int) then (1073741825 : Int) else ((c1 s1).v : Int)) = ((min (c1 s1).v 1073741825 : Nat) : Int) := by split <;> omega
    refine ⟨_, rfl, p1, p2, ?_⟩
    rw [em, IntWalk.i64_in _ (by omega)]
    exact take_k0 (x := ⟨(kk : Int), ((min (c1 s1).v 1073741825 : Nat) : Int), 0, 0, 0, 0⟩) h10 ⟨rfl, rfl, rfl, rfl⟩ hrec
  · rw [hI] at hrec
    simp only [Bool.false_eq_true, if_false] at hrec
    exact take_k0 (x := ⟨(kk : Int), 0, 0, 0, 0, 0⟩) st8 ⟨rfl, rfl, rfl, rfl⟩ hrec
end Go.Proofs
