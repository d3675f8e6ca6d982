/- The record whose bytes those are: the reference. -/
import Derived.Test.YtbncolgoejcfcaaRcE17
set_option linter.unusedVariables false
namespace Go.Proofs
open Go Go.Eng
structure FkS (w0 : World) (rd xb t2 : Nat) (xs : Bs) (s : Rs) (x : Rc) (w : World) : Prop where
  rdr : ∃ ok, RefAt w ok rd (up8 xs) s.i s.E ∧ ∀ k, ok k → k ≠ xb ∧ k ≠ t2 ∧ w0.heap.size ≤ k
  L : s.L = up8 xs
  recd : RcB w xb x
  out : ∃ y, RcB w t2 y
  ne : xb ≠ t2
  low : w0.heap.size ≤ xb ∧ w0.heap.size ≤ t2
  bel : Bel w0.heap.size w0 w
section
variable {w0 w : World} {rd xb t2 : Nat} {xs : Bs} {s : Rs} {x : Rc}
theorem FkS.eta (h : FkS w0 rd xb t2 xs s x w) : s = ⟨up8 xs, s.i, s.E⟩ := by
  have := h.L
  cases s
  simp only at this
  subst this
  rfl
theorem FkS.op (h : FkS w0 rd xb t2 xs s x w) {f : Nat} {args : List Value} {Q : Value → Prop} {s' : Rs} (hL : s'.L = up8 xs)
    (hc : ∀ ok, RefAt w ok rd (up8 xs) s.i s.E → Ret Try.prog f args w fun v w' => Q v ∧ RefAt w' ok rd (up8 xs) s'.i s'.E ∧ Fr (fun k => k = rd) w w') : Ret Try.prog f args w fun v w' => Q v ∧ FkS w0 rd xb t2 xs s' x w' := by
  obtain ⟨ok, h1, h2⟩ := h.rdr
  obtain ⟨n2, n3, n4⟩ := h2 rd h1.1
  obtain ⟨y, hy⟩ := h.out
  refine (hc ok h1).imp fun v w' ⟨q, k1, f⟩ => ⟨q, ⟨⟨ok, k1, h2⟩, hL, Blk.fr h.recd f (Ne.symm n2), ⟨y, Blk.fr hy f (Ne.symm n3)⟩, h.ne, h.low, h.bel.trans' (f.bel fun k e => by subst e; exact n4)⟩⟩
theorem FkS.get (h : FkS w0 rd xb t2 xs s x w) (m : Nat) : Ret Try.prog 38 [.pointer (some ⟨rd, 0, none⟩), .int .i64 (m : Int)] w fun v w' => v = .int .u64 ((g1 s m).v : Int) ∧ FkS w0 rd xb t2 xs (g1 s m).s x w' := by
  have e := h.eta
  refine h.op (s' := (g1 s m).s) (by unfold g1; rw [getS_L]; exact h.L) fun ok hr => ?_
  have hg := fget_ok hr (m : Int)
  rw [← e] at hg
  exact hg
theorem FkS.count (h : FkS w0 rd xb t2 xs s x w) : Ret Try.prog 39 [.pointer (some ⟨rd, 0, none⟩)] w fun v w' => v = .int .u64 ((c1 s).v : Int) ∧ FkS w0 rd xb t2 xs (c1 s).s x w' := by
  have e := h.eta
  refine h.op (s' := (c1 s).s) (by unfold c1; rw [rcS_L]; exact h.L) fun ok hr => ?_
  have hg := frcount_ok hr
  rw [← e] at hg
  exact hg
theorem FkS.fin (h : FkS w0 rd xb t2 xs s x w) : Ret Try.prog 40 [.pointer (some ⟨rd, 0, none⟩)] w fun v w' => v = .int .i64 (endV s) ∧ FkS w0 rd xb t2 xs s x w' := by
  have e := h.eta
  refine h.op (s' := s) h.L fun ok hr => ?_
  have hg := fend_ok hr
  rw [← e] at hg
  exact hg.imp fun v w' ⟨a, b, c⟩ => ⟨a, b, c.mono fun _ _ h => h.elim⟩
theorem FkS.fr0 (h : FkS w0 rd xb t2 xs s x w) {w' : World} (f : Fr none1 w w') : FkS w0 rd xb t2 xs s x w' := by
  obtain ⟨ok, h1, h2⟩ := h.rdr
  obtain ⟨y, hy⟩ := h.out
  exact ⟨⟨ok, h1.fr f fun _ _ _ h => h, h2⟩, h.L, Blk.fr h.recd f (fun h => h), ⟨y, Blk.fr hy f (fun h => h)⟩, h.ne, h.low, h.bel.trans' f.bel0⟩
theorem FkS.set (h : FkS w0 rd xb t2 xs s x w) {j : Nat} (hj : j < 6) {u : Value} {x' : Rc} (hx : rcell x' = (rcell x).set j u) :
    ((∃ v, w.cell? ⟨xb, j, none⟩ = some v) ∧ w.frozen? ⟨xb, j, none⟩ = false) ∧ FkS w0 rd xb t2 xs s x' (w.setCell ⟨xb, j, none⟩ u) := by
  obtain ⟨ok, h1, h2⟩ := h.rdr
  obtain ⟨y, hy⟩ := h.out
  obtain ⟨k1, k2, f⟩ := Blk.wr1 h.recd j hj u
  rw [← hx] at k2
  exact ⟨k1, ⟨ok, h1.fr f fun k _ hk => (h2 k hk).1, h2⟩, h.L, k2, ⟨y, Blk.fr hy f (Ne.symm h.ne)⟩, h.ne, h.low, h.bel.trans' (f.bel fun k e => by subst e; exact h.low.1)⟩
theorem FkS.done (h : FkS w0 rd xb t2 xs s x w) (z : Rc) : ∀ w', w' = ((((((w.setCell ⟨t2, 0, none⟩ (.int .u8 z.k)).setCell ⟨t2, 1, none⟩ (.int .i64 z.i)).setCell ⟨t2, 2, none⟩ (.int .i64 z.r)).setCell ⟨t2, 3, none⟩ (.int .i64 z.p)).setCell ⟨t2, 4, none⟩ (.int .i64 z.c)).setCell ⟨t2, 5, none⟩ (.int .i64 z.q)) → RcB w' t2 z ∧ Fr none1 w0 w' := by
  rintro w' rfl
  obtain ⟨y, hy⟩ := h.out
  obtain ⟨_, _, _, _, _, _, k, f⟩ := Blk.wr6 hy (.int .u8 z.k) (.int .i64 z.i) (.int .i64 z.r) (.int .i64 z.p) (.int .i64 z.c) (.int .i64 z.q)
  exact ⟨k, (h.bel.trans' (f.bel fun k e => by subst e; exact h.low.2)).top⟩
theorem ftake_k5 (h : FkS w0 rd xb t2 xs s x w) (bad : Bool) (ht : takeV xs = if bad then (rc0, 170) else (x, 0)) : S18_k5 ⟨t2, 0, none⟩ ⟨xb, 0, none⟩ bad w (TakeP w0 xs) := by
  obtain ⟨y, hy⟩ := h.out
  cases bad with
  | true =>
    obtain ⟨⟨a0, b0⟩, ⟨a1, b1⟩, ⟨a2, b2⟩, ⟨a3, b3⟩, ⟨a4, b4⟩, ⟨a5, b5⟩, _⟩ := Blk.wr6 hy (.int .u8 0) (.int .i64 0) (.int .i64 0) (.int .i64 0) (.int .i64 0) (.int .i64 0)
    obtain ⟨k, f⟩ := h.done rc0 _ rfl
    refine cT rfl ⟨a0, b0, a1, b1, a2, b2, a3, b3, a4, b4, a5, b5, _, k.c0, _, k.c1, _, k.c2, _, k.c3, _, k.c4, _, k.c5, ?_, f⟩
    rw [ht]; rfl
  | false =>
    obtain ⟨⟨a0, b0⟩, ⟨a1, b1⟩, ⟨a2, b2⟩, ⟨a3, b3⟩, ⟨a4, b4⟩, ⟨a5, b5⟩, _⟩ := Blk.wr6 hy (.int .u8 x.k) (.int .i64 x.i) (.int .i64 x.r) (.int .i64 x.p) (.int .i64 x.c) (.int .i64 x.q)
    obtain ⟨k, f⟩ := h.done x _ rfl
    have hr := h.recd
    refine cF rfl ⟨_, hr.c0, _, hr.c1, _, hr.c2, _, hr.c3, _, hr.c4, _, hr.c5, a0, b0, a1, b1, a2, b2, a3, b3, a4, b4, a5, b5, _, k.c0, _, k.c1, _, k.c2, _, k.c3, _, k.c4, _, k.c5, ?_, f⟩
    rw [ht]; rfl
theorem ftake_k4 {A : Option Addr} {c : Nat} {ok : Nat → Prop} (h : FkS w0 rd xb t2 xs s x w) (hb : Rd w0 ok A (bvs xs)) (ht : takeV xs = if endV s ≠ 0 ∨ ¬ right x ∨ pk (rb x) ≠ xs then (rc0, 170) else (x, 0)) : S18_k4 A xs.length c ⟨t2, 0, none⟩ (some ⟨rd, 0, none⟩) ⟨xb, 0, none⟩ w (TakeP w0 xs) := by
  have hr := h.recd
  refine ⟨_, hr.c0, _, hr.c1, _, hr.c2, _, hr.c3, _, hr.c4, _, hr.c5, ?_⟩
  refine (flay_ok x w).use ?_
  rintro v w1 ⟨A1, c1, rfl, o1, f1⟩
  have h1 := h.fr0 f1
  refine ⟨_, _, _, _, rfl, ?_⟩
  have hs1 := f1.size
  obtain ⟨ok1, r1, r2⟩ := h1.rdr
  have hfe := fend_ok r1
  have e := h1.eta
  rw [← e] at hfe
  refine hfe.use ?_
  rintro v w2 ⟨rfl, _, f2⟩
  have h2 := h1.fr0 f2
  have o2 := o1.fr f2 fun _ _ _ h => h
  refine ⟨_, rfl, cN (fun he => ftake_k5 h2 true (by rw [ht, if_pos (.inl he)]; rfl)) fun he => ?_⟩
  by_cases hh : right x
  · have el : layV x = (pk (rb x), 0) := if_pos hh
    rw [el] at o2 ⊢
    refine cF rfl ⟨_, w2, run_toString Uby Uu8 Ustr rfl o2.rd, _, w2, run_toString Uby Uu8 Ustr rfl (hb.new h2.bel), ftake_k5 h2 _ ?_⟩
    rw [ht]
    by_cases hp : pk (rb x) = xs
    · rw [if_neg (by rintro (h | h | h); exact h he; exact h hh; exact h hp), hp]; simp
    · rw [if_pos (.inr (.inr hp)), show (!decide (str (pk (rb x)) = str xs)) = true by simp [str_inj, hp]]; rfl
  · have el : layV x = ([], 1) := if_neg hh
    rw [el]
    exact cT rfl (ftake_k5 h2 true (by rw [ht, if_pos (.inr (.inl hh))]; rfl))
theorem ftake_k3 {A : Option Addr} {c : Nat} {ok : Nat → Prop} (h : FkS w0 rd xb t2 xs s x w) (hb : Rd w0 ok A (bvs xs)) (hz : x.p = 0 ∧ x.c = 0 ∧ x.q = 0) (hx : rdRec ⟨up8 xs, 0, 0⟩ = (⟨x.k, x.i, x.r, ((rdM s x.k).1 : Int), ((rdM s x.k).2.1 : Int), ((rdM s x.k).2.2.1 : Int)⟩, (rdM s x.k).2.2.2)) :
    S18_k3 A xs.length c ⟨t2, 0, none⟩ (some ⟨rd, 0, none⟩) ⟨xb, 0, none⟩ w (TakeP w0 xs) := by
  have norm : ∀ {s : Rs} {x : Rc}, rdRec ⟨up8 xs, 0, 0⟩ = (x, s) → takeV xs = if endV s ≠ 0 ∨ ¬ right x ∨ pk (rb x) ≠ xs then (rc0, 170) else (x, 0) := by
    intro s x hx
    have ht : takeV xs = if endV s ≠ 0 ∨ ¬ right x then (rc0, 170) else (x, 0) := by unfold takeV; rw [hx]
    by_cases hc : endV s ≠ 0 ∨ ¬ right x
    · rw [ht, if_pos hc, if_pos (by rcases hc with h | h; exact .inl h; exact .inr (.inl h))]
    · rw [if_neg hc] at ht
      have := (lay_take ht).2.1
      rw [ht, if_neg (by rintro (h | h | h); exact hc (.inl h); exact hc (.inr h); exact h this)]
  unfold rdM at hx
  refine ⟨_, h.recd.c0, cD (fun hM => ?_) (fun hM => ?_)⟩
  · rw [show hasM x.k = true by unfold hasM; exact decide_eq_true hM] at hx
    simp only [if_true] at hx
    have v6 : (g1 s 6).v < 2 ^ 6 := getV_lt s
    have v8 : (g1 (g1 s 6).s 8).v < 2 ^ 8 := getV_lt _
    have v3 : (g1 (g1 (g1 s 6).s 8).s 3).v < 2 ^ 3 := getV_lt _
    refine (h.get 6).use ?_
    rintro v w1 ⟨rfl, h1⟩
    obtain ⟨⟨a1, b1⟩, h4⟩ := h1.set (j := 3) (by decide) (u := .int .i64 ((g1 s 6).v : Int)) (x' := ⟨x.k, x.i, x.r, ((g1 s 6).v : Int), x.c, x.q⟩) rfl
    refine ⟨_, rfl, a1, b1, ?_⟩
    rw [IntWalk.i64_in _ (by omega)]
    refine (h4.get 8).use ?_
    rintro v w2 ⟨rfl, h2⟩
    obtain ⟨⟨a2, b2⟩, h5⟩ := h2.set (j := 4) (by decide) (u := .int .i64 ((g1 (g1 s 6).s 8).v : Int)) (x' := ⟨x.k, x.i, x.r, ((g1 s 6).v : Int), ((g1 (g1 s 6).s 8).v : Int), x.q⟩) rfl
    refine ⟨_, rfl, a2, b2, ?_⟩
    rw [IntWalk.i64_in _ (by omega)]
    refine (h5.get 3).use ?_
    rintro v w3 ⟨rfl, h3⟩
    obtain ⟨⟨a3, b3⟩, h6⟩ := h3.set (j := 5) (by decide) (u := .int .i64 ((g1 (g1 (g1 s 6).s 8).s 3).v : Int)) (x' := ⟨x.k, x.i, x.r, ((g1 s 6).v : Int), ((g1 (g1 s 6).s 8).v : Int), ((g1 (g1 (g1 s 6).s 8).s 3).v : Int)⟩) rfl
    refine ⟨_, rfl, a3, b3, ?_⟩
    rw [IntWalk.i64_in _ (by omega)]
    exact ftake_k4 h6 hb (norm hx)
  · rw [show hasM x.k = false by unfold hasM; exact decide_eq_false hM] at hx
    simp only [Bool.false_eq_true, if_false] at hx
    refine ftake_k4 h hb (norm ?_)
    rw [hx]
    obtain ⟨z1, z2, z3⟩ := hz
    cases x
    simp only at z1 z2 z3
    subst z1 z2 z3
    rfl
theorem ftake_k2 {A : Option Addr} {c : Nat} {ok : Nat → Prop} (h : FkS w0 rd xb t2 xs s x w) (hb : Rd w0 ok A (bvs xs)) (hk : 0 ≤ x.k ∧ x.k < 8) (hz : x.r = 0 ∧ x.p = 0 ∧ x.c = 0 ∧ x.q = 0) (hx : rdRec ⟨up8 xs, 0, 0⟩ = (⟨x.k, x.i, ((rdR s x.k).v : Int), ((rdM (rdR s x.k).s x.k).1 : Int), ((rdM (rdR s x.k).s x.k).2.1 : Int), ((rdM (rdR s x.k).s x.k).2.2.1 : Int)⟩, (rdM (rdR s x.k).s x.k).2.2.2)) :
    S18_k2 A xs.length c ⟨t2, 0, none⟩ (some ⟨rd, 0, none⟩) ⟨xb, 0, none⟩ w (TakeP w0 xs) := by
  have v3 : (g1 s 3).v < 2 ^ 3 := getV_lt s
  refine ⟨_, h.recd.c0, cD (fun hR => ?_) (fun hR => ?_)⟩
  · refine (h.get 3).use ?_
    rintro v w1 ⟨rfl, h1⟩
    obtain ⟨⟨a1, b1⟩, h2⟩ := h1.set (j := 2) (by decide) (u := .int .i64 ((g1 s 3).v : Int)) (x' := ⟨x.k, x.i, ((g1 s 3).v : Int), x.p, x.c, x.q⟩) rfl
    refine ⟨_, rfl, a1, b1, ?_⟩
    rw [IntWalk.i64_in _ (by omega)]
    by_cases h5 : x.k ≤ 5
    · unfold rdR at hx
      rw [show hasR x.k = true by unfold hasR; exact decide_eq_true ⟨hR, h5⟩] at hx
      simp only [if_true] at hx
      exact ftake_k3 (x := ⟨x.k, x.i, ((g1 s 3).v : Int), x.p, x.c, x.q⟩) h2 hb hz.2 hx
    · -- kinds that are none
      have hn : ∀ y : Rc, y.k = x.k → ¬ right y := fun y hy hr => by have := hr.1.2; omega
      refine ⟨_, h2.recd.c0, cF (by rw [decide_eq_false]; show ¬ x.k = 1; omega) (ftake_k4 h2 hb ?_)⟩
      have ht : takeV xs = (rc0, 170) := by
        unfold takeV
        rw [hx, if_pos (.inr (hn _ rfl))]
      rw [ht, if_pos (.inr (.inl (hn _ rfl)))]
  · unfold rdR at hx
    rw [show hasR x.k = false by unfold hasR; exact decide_eq_false (by omega)] at hx
    simp only [Bool.false_eq_true, if_false] at hx
    refine ftake_k3 h hb hz.2 ?_
    rw [hx, hz.1]
    rfl
end
theorem ftake_ok {w : World} {A : Option Addr} {c : Nat} {xs : Bs} {ok : Nat → Prop} (h : Rd w ok A (bvs xs)) (hm : xs.length ≤ 1000000) : Ret Try.prog 18 [.slice A xs.length c] w (TakeP w xs) := by
  apply S18_calls
  have bt := Blk.new w 23 (rcell rc0)
  have f0 : Fr none1 w (w.alloc (.cells ⟨rcell rc0⟩ 23)) := Fr.alloc _ _
  have hlt := bt.lt
  unfold S18
  generalize hw1 : w.alloc (.cells ⟨[.int .u8 0, .int .i64 0, .int .i64 0, .int .i64 0, .int .i64 0, .int .i64 0]⟩ 23) = w1
  have hw1' : w.alloc (.cells ⟨rcell rc0⟩ 23) = w1 := hw1
  rw [hw1'] at bt f0 hlt
  refine (of_ok (c := c) (h.fr f0 fun _ _ _ h => h) hm).use ?_
  rintro v w2 ⟨rd, rfl, h2, f2⟩
  refine ⟨_, rfl, ?_⟩
  refine (fget_ok h2 ((3 : Nat) : Int)).use ?_
  rintro v w5 ⟨rfl, h5, f5⟩
  refine ⟨_, rfl, ?_⟩
  have hrd : bw w1.heap.size w2 rd := h2.1
  have hs0 := f0.size
  have hs2 := f2.size
  have hs5 := f5.size
  have hk8 : (g1 ⟨up8 xs, 0, 0⟩ 3).v < 2 ^ 3 := getV_lt _ (m := 3)
  have hL : (g1 ⟨up8 xs, 0, 0⟩ 3).s.L = up8 xs := getS_L _ _
  have h5' : RefAt w5 (bw w1.heap.size w2) rd (up8 xs) (g1 ⟨up8 xs, 0, 0⟩ 3).s.i (g1 ⟨up8 xs, 0, 0⟩ 3).s.E := h5
  show _ ∧ _
  have hrec : rdRec ⟨up8 xs, 0, 0⟩ = (⟨((g1 ⟨up8 xs, 0, 0⟩ 3).v : Int), ((min (rdI (g1 ⟨up8 xs, 0, 0⟩ 3).s ((g1 ⟨up8 xs, 0, 0⟩ 3).v : Int)).v 1073741825 : Nat) : Int), ((rdR (rdI (g1 ⟨up8 xs, 0, 0⟩ 3).s ((g1 ⟨up8 xs, 0, 0⟩ 3).v : Int)).s ((g1 ⟨up8 xs, 0, 0⟩ 3).v : Int)).v : Int), ((rdM (rdR (rdI (g1 ⟨up8 xs, 0, 0⟩ 3).s ((g1 ⟨up8 xs, 0, 0⟩ 3).v : Int)).s ((g1 ⟨up8 xs, 0, 0⟩ 3).v : Int)).s ((g1 ⟨up8 xs, 0, 0⟩ 3).v : Int)).1 : Int), ((rdM (rdR (rdI (g1 ⟨up8 xs, 0, 0⟩ 3).s ((g1 ⟨up8 xs, 0, 0⟩ 3).v : Int)).s ((g1 ⟨up8 xs, 0, 0⟩ 3).v : Int)).s ((g1 ⟨up8 xs, 0, 0⟩ 3).v : Int)).2.1 : Int), ((rdM (rdR (rdI (g1 ⟨up8 xs, 0, 0⟩ 3).s ((g1 ⟨up8 xs, 0, 0⟩ 3).v : Int)).s ((g1 ⟨up8 xs, 0, 0⟩ 3).v : Int)).s ((g1 ⟨up8 xs, 0, 0⟩ 3).v : Int)).2.2.1 : Int)⟩, (rdM (rdR (rdI (g1 ⟨up8 xs, 0, 0⟩ 3).s ((g1 ⟨up8 xs, 0, 0⟩ 3).v : Int)).s ((g1 ⟨up8 xs, 0, 0⟩ 3).v : Int)).s ((g1 ⟨up8 xs, 0, 0⟩ 3).v : Int)).2.2.2) := rfl
  have hgv : getV ⟨up8 xs, 0, 0⟩ ((3 : Nat) : Int) = (g1 ⟨up8 xs, 0, 0⟩ 3).v := rfl
  rw [hgv]
  rw [IntWalk.u8_in _ (by omega)]
  clear h5 hgv
  generalize (g1 ⟨up8 xs, 0, 0⟩ 3).v = kk at hk8 hrec ⊢
  generalize (g1 ⟨up8 xs, 0, 0⟩ 3).s = s1 at h5' hL hrec
  have bx := Blk.new w5 23 (rcell rc0)
  have f6 : Fr none1 w5 (w5.alloc (.cells ⟨rcell rc0⟩ 23)) := Fr.alloc _ _
  obtain ⟨⟨a0, b0⟩, ⟨a1, b1⟩, ⟨a2, b2⟩, ⟨a3, b3⟩, ⟨a4, b4⟩, ⟨a5, b5⟩, bx2, f7⟩ := bx.wr6 (.int .u8 (kk : Int)) (.int .i64 0) (.int .i64 0) (.int .i64 0) (.int .i64 0) (.int .i64 0)
  refine ⟨a0, b0, a1, b1, a2, b2, a3, b3, a4, b4, a5, b5, ?_⟩
  have st : FkS w rd w5.heap.size w.heap.size xs s1 ⟨(kk : Int), 0, 0, 0, 0, 0⟩ ((((((((w5.alloc (.cells ⟨rcell rc0⟩ 23)).setCell ⟨w5.heap.size, 0, none⟩ (.int .u8 (kk : Int))).setCell ⟨w5.heap.size, 1, none⟩ (.int .i64 0)).setCell ⟨w5.heap.size, 2, none⟩ (.int .i64 0)).setCell ⟨w5.heap.size, 3, none⟩ (.int .i64 0)).setCell ⟨w5.heap.size, 4, none⟩ (.int .i64 0)).setCell ⟨w5.heap.size, 5, none⟩ (.int .i64 0))) := by
    refine ⟨⟨bw w1.heap.size w2, (h5'.fr f6 fun _ _ _ h => h).fr f7 fun k _ hk e => by have := hk.2; omega, fun k hk => ⟨by have := hk.2; omega, by have := hk.1; omega, by have := hk.1; omega⟩⟩, hL, bx2, ⟨rc0, ?_⟩, by omega, ⟨by omega, Nat.le_refl _⟩, ?_⟩
    · exact (((bt.fr f2 fun h => h).fr f5 fun e => by have := hrd.1; omega).fr f6 fun h => h).fr f7 fun e => by omega
    · exact (f0.trans' f2).bel0.trans' ((f5.bel fun k e => by subst e; have := hrd.1; omega).trans' (f6.bel0.trans' (f7.bel fun k e => by subst e; omega)))
  refine ⟨_, st.recd.c0, ?_⟩
  have k0t : (kk = 2 ∨ kk = 3) → S18_k0 A xs.length c ⟨w.heap.size, 0, none⟩ (some ⟨rd, 0, none⟩) ⟨w5.heap.size, 0, none⟩ true ((((((((w5.alloc (.cells ⟨rcell rc0⟩ 23)).setCell ⟨w5.heap.size, 0, none⟩ (.int .u8 (kk : Int))).setCell ⟨w5.heap.size, 1, none⟩ (.int .i64 0)).setCell ⟨w5.heap.size, 2, none⟩ (.int .i64 0)).setCell ⟨w5.heap.size, 3, none⟩ (.int .i64 0)).setCell ⟨w5.heap.size, 4, none⟩ (.int .i64 0)).setCell ⟨w5.heap.size, 5, none⟩ (.int .i64 0))) (TakeP w xs) := by
    intro hI
    unfold rdI at hrec
    rw [show hasI (kk : Int) = true by unfold hasI; exact decide_eq_true (by omega)] at hrec
    simp only [if_true] at hrec
    have hle := rcV_le s1
    have hcv : (c1 s1).v = rcV s1 := rfl
    refine cT rfl ?_
    refine st.count.use ?_
    rintro v w9 ⟨rfl, h9⟩
    refine ⟨_, rfl, cD (fun hbig => ?_) (fun hbig => ?_)⟩
    · have ht : takeV xs = (rc0, 170) := by
        unfold takeV
        rw [hrec, if_pos (.inr (fun hr => by have := hr.2.2.2.2.1.2; simp only at this; omega))]
      obtain ⟨y, hy⟩ := h9.out
      obtain ⟨⟨a0, b0⟩, ⟨a1, b1⟩, ⟨a2, b2⟩, ⟨a3, b3⟩, ⟨a4, b4⟩, ⟨a5, b5⟩, _⟩ := Blk.wr6 hy (.int .u8 0) (.int .i64 0) (.int .i64 0) (.int .i64 0) (.int .i64 0) (.int .i64 0)
      obtain ⟨k, f⟩ := h9.done rc0 _ rfl
      refine ⟨a0, b0, a1, b1, a2, b2, a3, b3, a4, b4, a5, b5, _, k.c0, _, k.c1, _, k.c2, _, k.c3, _, k.c4, _, k.c5, ?_, f⟩
      rw [ht]; rfl
    · have em : min (c1 s1).v 1073741825 = (c1 s1).v := by omega
      rw [em] at hrec
      obtain ⟨⟨p1, p2⟩, h10⟩ := h9.set (j := 1) (by decide) (u := .int .i64 ((c1 s1).v : Int)) (x' := ⟨(kk : Int), ((c1 s1).v : Int), 0, 0, 0, 0⟩) rfl
      refine ⟨p1, p2, ?_⟩
      rw [IntWalk.i64_in _ (by omega)]
      exact ftake_k2 (x := ⟨(kk : Int), ((c1 s1).v : Int), 0, 0, 0, 0⟩) h10 h ⟨by show (0 : Int) ≤ (kk : Int); omega, by show (kk : Int) < 8; omega⟩ ⟨rfl, rfl, rfl, rfl⟩ hrec
  have k0f : ¬ (kk = 2 ∨ kk = 3) → S18_k0 A xs.length c ⟨w.heap.size, 0, none⟩ (some ⟨rd, 0, none⟩) ⟨w5.heap.size, 0, none⟩ false ((((((((w5.alloc (.cells ⟨rcell rc0⟩ 23)).setCell ⟨w5.heap.size, 0, none⟩ (.int .u8 (kk : Int))).setCell ⟨w5.heap.size, 1, none⟩ (.int .i64 0)).setCell ⟨w5.heap.size, 2, none⟩ (.int .i64 0)).setCell ⟨w5.heap.size, 3, none⟩ (.int .i64 0)).setCell ⟨w5.heap.size, 4, none⟩ (.int .i64 0)).setCell ⟨w5.heap.size, 5, none⟩ (.int .i64 0))) (TakeP w xs) := by
    intro hI
    unfold rdI at hrec
    rw [show hasI (kk : Int) = false by unfold hasI; exact decide_eq_false (by omega)] at hrec
    simp only [Bool.false_eq_true, if_false] at hrec
    exact cF rfl (ftake_k2 (x := ⟨(kk : Int), 0, 0, 0, 0, 0⟩) st h ⟨by show (0 : Int) ≤ (kk : Int); omega, by show (kk : Int) < 8; omega⟩ ⟨rfl, rfl, rfl, rfl⟩ hrec)
  refine cD (fun h2 => k0t (.inl (by have h2' : (kk : Int) = 2 := h2; omega))) (fun h2 => ⟨_, st.recd.c0, ?_⟩)
  have h2' : ¬ (kk : Int) = 2 := h2
  by_cases h3 : (kk : Int) = 3
  · rw [show decide ((⟨(kk : Int), 0, 0, 0, 0, 0⟩ : Rc).k = 3) = true from decide_eq_true h3]; exact k0t (.inr (by omega))
  · rw [show decide ((⟨(kk : Int), 0, 0, 0, 0, 0⟩ : Rc).k = 3) = false from decide_eq_false h3]; exact k0f (by omega)
end Go.Proofs
