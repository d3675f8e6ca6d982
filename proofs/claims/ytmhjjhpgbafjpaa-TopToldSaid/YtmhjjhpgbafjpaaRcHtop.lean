/- The act whose bytes those are: contracts of the program and of the reference. -/
import Derived.Test.YtmhjjhpgbafjpaaRcGtop
set_option linter.unusedVariables false
namespace Go.Eng
open Go
theorem Blk.wr3 {w : World} {b : Nat} {t : TypeId} {x0 x1 x2 : Value} (h : Blk w b t [x0, x1, x2]) (y0 y1 y2 : Value) :
    ((∃ u, w.cell? ⟨b, 0, none⟩ = some u) ∧ w.frozen? ⟨b, 0, none⟩ = false) ∧
    ((∃ u, (w.setCell ⟨b, 0, none⟩ y0).cell? ⟨b, 1, none⟩ = some u) ∧ (w.setCell ⟨b, 0, none⟩ y0).frozen? ⟨b, 1, none⟩ = false) ∧
    ((∃ u, ((w.setCell ⟨b, 0, none⟩ y0).setCell ⟨b, 1, none⟩ y1).cell? ⟨b, 2, none⟩ = some u) ∧ ((w.setCell ⟨b, 0, none⟩ y0).setCell ⟨b, 1, none⟩ y1).frozen? ⟨b, 2, none⟩ = false) ∧
    Blk (((w.setCell ⟨b, 0, none⟩ y0).setCell ⟨b, 1, none⟩ y1).setCell ⟨b, 2, none⟩ y2) b t [y0, y1, y2] ∧
    Fr (fun k => k = b) w (((w.setCell ⟨b, 0, none⟩ y0).setCell ⟨b, 1, none⟩ y1).setCell ⟨b, 2, none⟩ y2) := by
  have b1 := h.set 0 y0
  have b2 := b1.set 1 y1
  have b3 := b2.set 2 y2
  have f : ∀ (w : World) j u, Fr (fun k => k = b) w (w.setCell ⟨b, j, none⟩ u) := fun w j u => Fr.setCell (F := fun k => k = b) w rfl u
  exact ⟨⟨h.has 0 (by simp), h.free 0⟩, ⟨b1.has 1 (by simp), b1.free 1⟩, ⟨b2.has 2 (by simp), b2.free 2⟩, b3, ((f _ _ _).trans' (f _ _ _)).trans' (f _ _ _)⟩
end Go.Eng
namespace Go.Proofs
open Go Go.Eng
def ATakeP (w : World) (b : Bs) (v : Value) (w' : World) : Prop := v = .tuple ⟨[aval (atakeV b).1, .int .i64 (atakeV b).2]⟩ ∧ Fr none1 w w'
/-- The state while an act is taken. -/
structure AtS (Rdr : World → (Nat → Prop) → Nat → Int → Prop) (w0 : World) (rd xb t2 : Nat) (xs : Bs) (s : Rs) (x : Ac) (w : World) : Prop where
  rdr : ∃ ok, Rdr w ok s.i s.E ∧ ok rd ∧ ∀ k, ok k → k ≠ xb ∧ k ≠ t2 ∧ w0.heap.size ≤ k
  L : s.L = up8 xs
  recd : AcB w xb x
  out : ∃ y, AcB w t2 y
  ne : xb ≠ t2
  low : w0.heap.size ≤ xb ∧ w0.heap.size ≤ t2
  bel : Bel w0.heap.size w0 w
def Stays (Rdr : World → (Nat → Prop) → Nat → Int → Prop) : Prop := ∀ (w w' : World) (ok : Nat → Prop) (i : Nat) (E : Int) (F : Nat → Prop), Rdr w ok i E → Fr F w w' → (∀ k, k < w.heap.size → ok k → ¬ F k) → Rdr w' ok i E
section
variable {Rdr : World → (Nat → Prop) → Nat → Int → Prop} {w0 w : World} {rd xb t2 : Nat} {xs : Bs} {s : Rs} {x : Ac}
theorem AtS.eta (h : AtS Rdr w0 rd xb t2 xs s x w) : s = ⟨up8 xs, s.i, s.E⟩ := by
  have := h.L
  cases s
  simp only at this
  subst this
  rfl
theorem AtS.op (h : AtS Rdr w0 rd xb t2 xs s x w) {f : Nat} {args : List Value} {Q : Value → Prop} {s' : Rs} (hL : s'.L = up8 xs)
    (hc : ∀ ok, Rdr w ok s.i s.E → Ret Try.prog f args w fun v w' => Q v ∧ Rdr w' ok s'.i s'.E ∧ Fr (fun k => k = rd) w w') : Ret Try.prog f args w fun v w' => Q v ∧ AtS Rdr w0 rd xb t2 xs s' x w' := by
  obtain ⟨ok, h1, hrd, h2⟩ := h.rdr
  obtain ⟨n2, n3, n4⟩ := h2 rd hrd
  obtain ⟨y, hy⟩ := h.out
  refine (hc ok h1).imp fun v w' ⟨q, k1, f⟩ => ⟨q, ⟨⟨ok, k1, hrd, h2⟩, hL, Blk.fr h.recd f (Ne.symm n2), ⟨y, Blk.fr hy f (Ne.symm n3)⟩, h.ne, h.low, h.bel.trans' (f.bel fun k e => by subst e; exact n4)⟩⟩
theorem AtS.fr0 (hS : Stays Rdr) (h : AtS Rdr w0 rd xb t2 xs s x w) {w' : World} (f : Fr none1 w w') : AtS Rdr w0 rd xb t2 xs s x w' := by
  obtain ⟨ok, h1, hrd, h2⟩ := h.rdr
  obtain ⟨y, hy⟩ := h.out
  exact ⟨⟨ok, hS _ _ _ _ _ _ h1 f fun _ _ _ h => h, hrd, h2⟩, h.L, Blk.fr h.recd f (fun h => h), ⟨y, Blk.fr hy f (fun h => h)⟩, h.ne, h.low, h.bel.trans' f.bel0⟩
theorem AtS.set (hS : Stays Rdr) (h : AtS Rdr w0 rd xb t2 xs s x w) {j : Nat} (hj : j < 3) {u : Value} {x' : Ac} (hx : acell x' = (acell x).set j u) :
    ((∃ v, w.cell? ⟨xb, j, none⟩ = some v) ∧ w.frozen? ⟨xb, j, none⟩ = false) ∧ AtS Rdr w0 rd xb t2 xs s x' (w.setCell ⟨xb, j, none⟩ u) := by
  obtain ⟨ok, h1, hrd, h2⟩ := h.rdr
  obtain ⟨y, hy⟩ := h.out
  obtain ⟨k1, k2, f⟩ := Blk.wr1 h.recd j hj u
  rw [← hx] at k2
  exact ⟨k1, ⟨ok, hS _ _ _ _ _ _ h1 f fun k _ hk => (h2 k hk).1, hrd, h2⟩, h.L, k2, ⟨y, Blk.fr hy f (Ne.symm h.ne)⟩, h.ne, h.low, h.bel.trans' (f.bel fun k e => by subst e; exact h.low.1)⟩
/-- The answer is written. -/
theorem AtS.done (h : AtS Rdr w0 rd xb t2 xs s x w) (z : Ac) :
    ((∃ u, w.cell? ⟨t2, 0, none⟩ = some u) ∧ w.frozen? ⟨t2, 0, none⟩ = false) ∧
    ((∃ u, (w.setCell ⟨t2, 0, none⟩ (.int .u8 z.k)).cell? ⟨t2, 1, none⟩ = some u) ∧ (w.setCell ⟨t2, 0, none⟩ (.int .u8 z.k)).frozen? ⟨t2, 1, none⟩ = false) ∧
    ((∃ u, ((w.setCell ⟨t2, 0, none⟩ (.int .u8 z.k)).setCell ⟨t2, 1, none⟩ (.int .i64 z.c)).cell? ⟨t2, 2, none⟩ = some u) ∧ ((w.setCell ⟨t2, 0, none⟩ (.int .u8 z.k)).setCell ⟨t2, 1, none⟩ (.int .i64 z.c)).frozen? ⟨t2, 2, none⟩ = false) ∧
    AcB (((w.setCell ⟨t2, 0, none⟩ (.int .u8 z.k)).setCell ⟨t2, 1, none⟩ (.int .i64 z.c)).setCell ⟨t2, 2, none⟩ (.int .i64 z.p)) t2 z ∧ Fr none1 w0 (((w.setCell ⟨t2, 0, none⟩ (.int .u8 z.k)).setCell ⟨t2, 1, none⟩ (.int .i64 z.c)).setCell ⟨t2, 2, none⟩ (.int .i64 z.p)) := by
  obtain ⟨y, hy⟩ := h.out
  obtain ⟨a0, a1, a2, k, f⟩ := Blk.wr3 hy (.int .u8 z.k) (.int .i64 z.c) (.int .i64 z.p)
  exact ⟨a0, a1, a2, k, (h.bel.trans' (f.bel fun k e => by subst e; exact h.low.2)).top⟩
theorem atake_k0 (h : AtS Rdr w0 rd xb t2 xs s x w) (bad : Bool) (ht : atakeV xs = if bad then (ac0, 170) else (x, 0)) : S57_k0 ⟨t2, 0, none⟩ ⟨xb, 0, none⟩ bad w (ATakeP w0 xs) := by
  cases bad with
  | true =>
    obtain ⟨a0, a1, a2, k, f⟩ := h.done ac0
    refine cT rfl ⟨a0.1, a0.2, a1.1, a1.2, a2.1, a2.2, _, k.c0, _, k.c1, _, k.c2, ?_, f⟩
    rw [ht]; rfl
  | false =>
    obtain ⟨a0, a1, a2, k, f⟩ := h.done x
    have hr := h.recd
    refine cF rfl ⟨_, hr.c0, _, hr.c1, _, hr.c2, a0.1, a0.2, a1.1, a1.2, a2.1, a2.2, _, k.c0, _, k.c1, _, k.c2, ?_, f⟩
    rw [ht]; rfl
end
abbrev RdP (rd : Nat) (xs : Bs) : World → (Nat → Prop) → Nat → Int → Prop := fun w ok i E => RdrAt w ok rd xs i E
theorem RdP.stays (rd : Nat) (xs : Bs) : Stays (RdP rd xs) := fun _ _ _ _ _ _ h f hd => RdrAt.fr h f hd
theorem atake_ok {w : World} {A : Option Addr} {c : Nat} {xs : Bs} {ok : Nat → Prop} (h : Rd w ok A (bvs xs)) (hm : xs.length ≤ 1000000) : Ret Try.prog 57 [.slice A xs.length c] w (ATakeP w xs) := by
  apply S57_calls
  obtain ⟨bt, f0⟩ := AcB.new w ac0
  have hlt := bt.lt
  unfold S57
  generalize hw1 : w.alloc (.cells ⟨[.int .u8 0, .int .i64 0, .int .i64 0]⟩ 67) = w1
  have hw1' : w.alloc (.cells ⟨acell ac0⟩ 67) = w1 := hw1
  rw [hw1'] at bt f0 hlt
  refine (rnew_ok (c := c) (h.fr f0 fun _ _ _ h => h) hm).use ?_
  rintro v w2 ⟨rd, rfl, h2, f2⟩
  refine ⟨_, rfl, ?_⟩
  refine (get_ok h2 ((2 : Nat) : Int)).use ?_
  rintro v w3 ⟨rfl, h3, f3⟩
  refine ⟨_, rfl, ?_⟩
  have hrd : bw w1.heap.size w2 rd := h2.1
  have hs0 := f0.size
  have hs2 := f2.size
  have hs3 := f3.size
  have hk : getV ⟨up8 xs, 0, 0⟩ ((2 : Nat) : Int) < 2 ^ 2 := getV_lt _ (m := 2)
  rw [IntWalk.u8_in _ (by omega)]
  obtain ⟨bx, fx⟩ := AcB.new w3 ac0
  obtain ⟨a0, a1, a2, bx2, f7⟩ := Blk.wr3 bx (.int .u8 (getV ⟨up8 xs, 0, 0⟩ ((2 : Nat) : Int) : Int)) (.int .i64 0) (.int .i64 0)
  refine ⟨a0.1, a0.2, a1.1, a1.2, a2.1, a2.2, ?_⟩
  have st : AtS (RdP rd xs) w rd w3.heap.size w.heap.size xs (g1 ⟨up8 xs, 0, 0⟩ 2).s ⟨((g1 ⟨up8 xs, 0, 0⟩ 2).v : Int), 0, 0⟩ ((((w3.alloc (.cells ⟨acell ac0⟩ 67)).setCell ⟨w3.heap.size, 0, none⟩ (.int .u8 (getV ⟨up8 xs, 0, 0⟩ ((2 : Nat) : Int) : Int))).setCell ⟨w3.heap.size, 1, none⟩ (.int .i64 0)).setCell ⟨w3.heap.size, 2, none⟩ (.int .i64 0)) := by
    refine ⟨⟨bw w1.heap.size w2, (h3.fr fx fun _ _ _ h => h).fr f7 fun k _ hk e => by have := hk.2; omega, hrd, fun k hk => ⟨by have := hk.2; omega, by have := hk.1; omega, by have := hk.1; omega⟩⟩, getS_L _ _, bx2, ⟨ac0, ?_⟩, by omega, ⟨by omega, Nat.le_refl _⟩, ?_⟩
    · exact (((bt.fr f2 fun h => h).fr f3 fun e => by have := hrd.1; omega).fr fx fun h => h).fr f7 fun e => by omega
    · exact (f0.trans' f2).bel0.trans' ((f3.bel fun k e => by subst e; have := hrd.1; omega).trans' (fx.bel0.trans' (f7.bel fun k e => by subst e; omega)))
  have hS := RdP.stays rd xs
  have get : ∀ {s x w'} (m : Nat), AtS (RdP rd xs) w rd w3.heap.size w.heap.size xs s x w' → Ret Try.prog 52 [.pointer (some ⟨rd, 0, none⟩), .int .i64 (m : Int)] w' fun v w'' => v = .int .u64 ((g1 s m).v : Int) ∧ AtS (RdP rd xs) w rd w3.heap.size w.heap.size xs (g1 s m).s x w'' := by
    intro s x w' m h
    refine h.op (s' := (g1 s m).s) (by unfold g1; rw [getS_L]; exact h.L) fun ok hr => ?_
    have hg := get_ok hr (m : Int)
    rw [← h.eta] at hg
    exact hg
  refine (get 8 st).use ?_
  rintro v w4 ⟨rfl, st4⟩
  have v8 : (g1 (g1 ⟨up8 xs, 0, 0⟩ 2).s 8).v < 2 ^ 8 := getV_lt _
  have v6 : (g1 (g1 (g1 ⟨up8 xs, 0, 0⟩ 2).s 8).s 6).v < 2 ^ 6 := getV_lt _
  obtain ⟨p1, st5⟩ := st4.set hS (j := 1) (by decide) (u := .int .i64 ((g1 (g1 ⟨up8 xs, 0, 0⟩ 2).s 8).v : Int)) (x' := ⟨((g1 ⟨up8 xs, 0, 0⟩ 2).v : Int), ((g1 (g1 ⟨up8 xs, 0, 0⟩ 2).s 8).v : Int), 0⟩) rfl
  refine ⟨_, rfl, p1.1, p1.2, ?_⟩
  rw [IntWalk.i64_in _ (by omega)]
  refine (get 6 st5).use ?_
  rintro v w6 ⟨rfl, st6⟩
  obtain ⟨p2, st7⟩ := st6.set hS (j := 2) (by decide) (u := .int .i64 ((g1 (g1 (g1 ⟨up8 xs, 0, 0⟩ 2).s 8).s 6).v : Int)) (x' := ⟨((g1 ⟨up8 xs, 0, 0⟩ 2).v : Int), ((g1 (g1 ⟨up8 xs, 0, 0⟩ 2).s 8).v : Int), ((g1 (g1 (g1 ⟨up8 xs, 0, 0⟩ 2).s 8).s 6).v : Int)⟩) rfl
  refine ⟨_, rfl, p2.1, p2.2, ?_⟩
  rw [IntWalk.i64_in _ (by omega)]
  have hdef : rdAct ⟨up8 xs, 0, 0⟩ = (⟨((g1 ⟨up8 xs, 0, 0⟩ 2).v : Int), ((g1 (g1 ⟨up8 xs, 0, 0⟩ 2).s 8).v : Int), ((g1 (g1 (g1 ⟨up8 xs, 0, 0⟩ 2).s 8).s 6).v : Int)⟩, (g1 (g1 (g1 ⟨up8 xs, 0, 0⟩ 2).s 8).s 6).s) := rfl
  generalize World.setCell w6 _ _ = w7 at st7 ⊢
  generalize (g1 (g1 (g1 ⟨up8 xs, 0, 0⟩ 2).s 8).s 6).s = s at st7 hdef
  generalize (⟨((g1 ⟨up8 xs, 0, 0⟩ 2).v : Int), ((g1 (g1 ⟨up8 xs, 0, 0⟩ 2).s 8).v : Int), ((g1 (g1 (g1 ⟨up8 xs, 0, 0⟩ 2).s 8).s 6).v : Int)⟩ : Ac) = x at st7 hdef
  have ht : atakeV xs = if endV s ≠ 0 ∨ 0 < s.left ∨ ¬ may x then (ac0, 170) else (x, 0) := by unfold atakeV; rw [hdef]
  have hend : Ret Try.prog 54 [.pointer (some ⟨rd, 0, none⟩)] w7 fun v w' => v = .int .i64 (endV s) ∧ AtS (RdP rd xs) w rd w3.heap.size w.heap.size xs s x w' := by
    refine st7.op (s' := s) st7.L fun ok hr => ?_
    have hg := end_ok hr
    rw [← st7.eta] at hg
    exact hg.imp fun v w' ⟨a, b, c⟩ => ⟨a, b, c.mono fun _ _ h => h.elim⟩
  refine hend.use ?_
  rintro v w8 ⟨rfl, st8⟩
  refine ⟨_, rfl, cN (fun he => atake_k0 st8 true (by rw [ht, if_pos (.inl he)]; rfl)) fun he => ?_⟩
  have hleft : Ret Try.prog 56 [.pointer (some ⟨rd, 0, none⟩)] w8 fun v w' => v = .int .i64 s.left ∧ AtS (RdP rd xs) w rd w3.heap.size w.heap.size xs s x w' := by
    refine st8.op (s' := s) st8.L fun ok hr => ?_
    have hg := left_ok hr
    have e : s.left = 8 * (xs.length : Int) - (s.i : Int) := by
      unfold Rs.left
      rw [st8.L, up8_length]; omega
    rw [e]
    exact hg.imp fun v w' ⟨a, b, c⟩ => ⟨a, b, c.mono fun _ _ h => h.elim⟩
  refine hleft.use ?_
  rintro v w9 ⟨rfl, st9⟩
  refine ⟨_, rfl, cD (fun hl => atake_k0 st9 true (by rw [ht, if_pos (.inr (.inl hl))]; rfl)) fun hl => ?_⟩
  have hr := st9.recd
  refine ⟨_, hr.c0, _, hr.c1, _, hr.c2, ?_⟩
  refine (may_ok x w9).use ?_
  rintro v w10 ⟨rfl, f10⟩
  refine ⟨_, rfl, atake_k0 (st9.fr0 hS f10) _ ?_⟩
  rw [ht]
  by_cases hh : may x
  · rw [decide_eq_true hh, if_neg (by rintro (h | h | h); exact h he; exact hl h; exact h hh)]; rfl
  · rw [decide_eq_false hh, if_pos (.inr (.inr hh))]; rfl
end Go.Proofs
