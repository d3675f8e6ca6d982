/- Acts: their bits, and contracts of what lays them. -/
import Derived.Test.YtmhjjhpgbafjpaaRcFtop
set_option linter.unusedVariables false
namespace Go.Proofs
open Go Go.Eng
structure Ac where
  k : Int
  c : Int
  p : Int
  deriving DecidableEq
def may (x : Ac) : Prop := (1 ≤ x.k ∧ x.k ≤ 3) ∧ (0 ≤ x.c ∧ x.c < 256) ∧ (0 ≤ x.p ∧ x.p < 64) ∧ (x.k ≠ 1 ∨ x.p = 0)
instance (x : Ac) : Decidable (may x) := by unfold may; exact inferInstance
def ac0 : Ac := ⟨0, 0, 0⟩
def ab (x : Ac) : List Bool := nb x.k.toNat 2 ++ (nb x.c.toNat 8 ++ nb x.p.toNat 6)
theorem ab_len (x : Ac) : (ab x).length = 16 := by unfold ab; simp [nb_length]
def alayV (x : Ac) : Bs × Int := if may x then (pk (ab x), 0) else ([], 1)
def rdAct (s : Rs) : Ac × Rs := (⟨((g1 s 2).v : Int), ((g1 (g1 s 2).s 8).v : Int), ((g1 (g1 (g1 s 2).s 8).s 6).v : Int)⟩, (g1 (g1 (g1 s 2).s 8).s 6).s)
def atakeV (b : Bs) : Ac × Int := if endV (rdAct ⟨up8 b, 0, 0⟩).2 ≠ 0 ∨ 0 < (rdAct ⟨up8 b, 0, 0⟩).2.left ∨ ¬ may (rdAct ⟨up8 b, 0, 0⟩).1 then (ac0, 170) else ((rdAct ⟨up8 b, 0, 0⟩).1, 0)
theorem up8_ab (x : Ac) : up8 (pk (ab x)) = ab x := by
  rw [up8_pk, ab_len]; simp
theorem rdAct_ab {x : Ac} (h : may x) : rdAct ⟨ab x, 0, 0⟩ = (x, ⟨ab x, 16, 0⟩) := by
  obtain ⟨⟨k1, k2⟩, ⟨c1, c2⟩, ⟨p1, p2⟩, _⟩ := h
  have d0 : (ab x).drop 0 = nb x.k.toNat 2 ++ (nb x.c.toNat 8 ++ nb x.p.toNat 6) := by rw [List.drop_zero]; rfl
  have e0 := g1_nb d0 (by decide) (Nat.zero_le _) (n := x.k.toNat) (by omega)
  have l1 := le_app d0 (Nat.zero_le _)
  have d1 := drop_app d0
  rw [nb_length] at d1 l1
  have e1 := g1_nb d1 (by decide) l1 (n := x.c.toNat) (by omega)
  have l2 := le_app d1 l1
  have d2 := drop_app d1
  rw [nb_length] at d2 l2
  rw [← List.append_nil (nb x.p.toNat 6)] at d2
  have e2 := g1_nb d2 (by decide) l2 (n := x.p.toNat) (by omega)
  unfold rdAct
  rw [e0, e1, e2]
  have a1 : ((x.k.toNat : Nat) : Int) = x.k := by omega
  have a2 : ((x.c.toNat : Nat) : Int) = x.c := by omega
  have a3 : ((x.p.toNat : Nat) : Int) = x.p := by omega
  simp only [a1, a2, a3]
theorem atake_lay {x : Ac} (h : may x) : atakeV (pk (ab x)) = (x, 0) := by
  unfold atakeV
  rw [up8_ab, rdAct_ab h]
  have he : endV ⟨ab x, 16, 0⟩ = 0 := by
    unfold endV Rs.left
    simp only [ab_len]
    rw [if_neg (by decide), if_neg (by decide), List.drop_eq_nil_of_le (by rw [ab_len]; exact Nat.le_refl _)]
    rfl
  rw [if_neg]
  rintro (h1 | h1 | h1)
  · exact h1 he
  · unfold Rs.left at h1; simp only [ab_len] at h1; exact absurd h1 (by decide)
  · exact h1 h
theorem alay_take {b : Bs} {x : Ac} (h : atakeV b = (x, 0)) : may x ∧ pk (ab x) = b ∧ (rdAct ⟨up8 b, 0, 0⟩).1 = x := by
  unfold atakeV at h
  split at h
  · cases h
  · rename_i hc
    have h1 : (rdAct ⟨up8 b, 0, 0⟩).1 = x := congrArg Prod.fst h
    have hm : may (rdAct ⟨up8 b, 0, 0⟩).1 := by
      by_cases hr : may (rdAct ⟨up8 b, 0, 0⟩).1
      · exact hr
      · exact absurd (.inr (.inr hr)) hc
    have he : endV (rdAct ⟨up8 b, 0, 0⟩).2 = 0 := by
      by_cases he : endV (rdAct ⟨up8 b, 0, 0⟩).2 = 0
      · exact he
      · exact absurd (.inl he) hc
    have hl : ¬ 0 < (rdAct ⟨up8 b, 0, 0⟩).2.left := fun h => hc (.inr (.inl h))
    rw [h1] at hm
    refine ⟨hm, ?_, h1⟩
    have hE : (rdAct ⟨up8 b, 0, 0⟩).2.E = 0 := by
      unfold endV at he
      by_cases hE : (rdAct ⟨up8 b, 0, 0⟩).2.E ≠ 0
      · rw [if_pos hE] at he; exact he
      · simpa using hE
    have h3 : (g1 (g1 (g1 ⟨up8 b, 0, 0⟩ 2).s 8).s 6).s.E = 0 := hE
    have h2 := g1_E h3
    have h4 := g1_E h2
    obtain ⟨t1, _⟩ := g1_took (s := ⟨up8 b, 0, 0⟩) (m := 2) (by decide) (Nat.zero_le _) h4
    obtain ⟨t2, _⟩ := g1_took (m := 8) (by decide) t1.fits h2
    obtain ⟨t3, _⟩ := g1_took (m := 6) (by decide) t2.fits h3
    have tk := t1.trans (t2.trans t3)
    have hab : nb (g1 ⟨up8 b, 0, 0⟩ 2).v 2 ++ (nb (g1 (g1 ⟨up8 b, 0, 0⟩ 2).s 8).v 8 ++ nb (g1 (g1 (g1 ⟨up8 b, 0, 0⟩ 2).s 8).s 6).v 6) = ab x := by rw [← h1]; rfl
    rw [hab] at tk
    obtain ⟨q1, q2, q3, q4, _⟩ := tk
    have hl' : ¬ (0 : Int) < ((g1 (g1 (g1 ⟨up8 b, 0, 0⟩ 2).s 8).s 6).s.L.length : Int) - ((g1 (g1 (g1 ⟨up8 b, 0, 0⟩ 2).s 8).s 6).s.i : Int) := hl
    rw [q1] at hl'
    simp only [List.drop_zero] at q4 q3 hl'
    rw [List.drop_eq_nil_of_le (by omega), List.append_nil] at q4
    refine up8_inj ?_
    rw [up8_ab, q4]
theorem atakeV_or (b : Bs) : (∃ x, atakeV b = (x, 0)) ∨ atakeV b = (ac0, 170) := by
  unfold atakeV
  split
  · exact .inr rfl
  · exact .inl ⟨_, rfl⟩
/-- As the reference says it. -/
theorem atakeV_ref (b : Bs) : atakeV b = if may (rdAct ⟨up8 b, 0, 0⟩).1 ∧ pk (ab (rdAct ⟨up8 b, 0, 0⟩).1) = b then ((rdAct ⟨up8 b, 0, 0⟩).1, 0) else (ac0, 170) := by
  by_cases h : may (rdAct ⟨up8 b, 0, 0⟩).1 ∧ pk (ab (rdAct ⟨up8 b, 0, 0⟩).1) = b
  · rw [if_pos h]
    have := atake_lay h.1
    rwa [h.2] at this
  · rw [if_neg h]
    rcases atakeV_or b with ⟨y, e⟩ | e
    · obtain ⟨h1, h2, h3⟩ := alay_take e
      subst h3
      exact absurd ⟨h1, h2⟩ h
    · exact e
/-! ### Cells -/
def acell (x : Ac) : List Value := [.int .u8 x.k, .int .i64 x.c, .int .i64 x.p]
def aval (x : Ac) : Value := .agg ⟨acell x⟩
abbrev AcB (w : World) (b : Nat) (x : Ac) : Prop := Blk w b 67 (acell x)
section
variable {w : World} {b : Nat} {x : Ac}
theorem AcB.c0 (h : AcB w b x) : w.cell? ⟨b, 0, none⟩ = some (.int .u8 x.k) := (Blk.cell h 0).trans rfl
theorem AcB.c1 (h : AcB w b x) : w.cell? ⟨b, 1, none⟩ = some (.int .i64 x.c) := (Blk.cell h 1).trans rfl
theorem AcB.c2 (h : AcB w b x) : w.cell? ⟨b, 2, none⟩ = some (.int .i64 x.p) := (Blk.cell h 2).trans rfl
theorem AcB.new (w : World) (x : Ac) : AcB (w.alloc (.cells ⟨acell x⟩ 67)) w.heap.size x ∧ Fr none1 w (w.alloc (.cells ⟨acell x⟩ 67)) := ⟨Blk.new w 67 (acell x), Fr.alloc _ _⟩
end
theorem may_ok (x : Ac) (w : World) : Ret Try.prog 60 [aval x] w fun v w' => v = .bool (decide (may x)) ∧ Fr none1 w w' := by
  apply S60_calls
  obtain ⟨b0, f0⟩ := AcB.new w x
  unfold S60
  generalize hw1 : w.alloc (.cells ⟨[.int .u8 x.k, .int .i64 x.c, .int .i64 x.p]⟩ 67) = w1
  have hw1' : w.alloc (.cells ⟨acell x⟩ 67) = w1 := hw1
  rw [hw1'] at b0 f0
  generalize w.heap.size = b at b0 ⊢
  have no : ¬ may x → (Value.bool false = .bool (decide (may x)) ∧ Fr none1 w w1) := fun h => ⟨by rw [decide_eq_false h], f0⟩
  have yes : ∀ b : Bool, (b = true ↔ may x) → (Value.bool b = .bool (decide (may x)) ∧ Fr none1 w w1) := fun b h => ⟨by congr 1; rw [Bool.eq_iff_iff, h, decide_eq_true_iff], f0⟩
  refine ⟨_, b0.c0, cD (fun k1 => ⟨_, b0.c0, cD (fun k2 => ⟨_, b0.c1, ?_⟩) fun k2 => no (by unfold may; omega)⟩) fun k1 => no (by unfold may; omega)⟩
  refine (fits_ok x.c (m := 8) (by decide) w1).use ?_
  rintro v w1 ⟨rfl, rfl⟩
  refine ⟨_, rfl, cD (fun c1 => ⟨_, b0.c2, ?_⟩) fun c1 => no (by unfold may; omega)⟩
  refine (fits_ok x.p (m := 6) (by decide) w1).use ?_
  rintro v w1 ⟨rfl, rfl⟩
  refine ⟨_, rfl, cD (fun p1 => ⟨_, b0.c0, ?_⟩) fun p1 => no (by unfold may; omega)⟩
  refine cN (fun h => ?_) (fun h => ?_)
  · exact yes _ (by simp; unfold may; omega)
  · exact ⟨_, b0.c2, yes _ (by rw [decide_eq_true_iff]; unfold may; omega)⟩
/-- What LayAct answers. -/
def ALayP (w : World) (x : Ac) (v : Value) (w' : World) : Prop := ∃ A c, v = .tuple ⟨[.slice A (alayV x).1.length c, .int .i64 (alayV x).2]⟩ ∧ Own w' 5 1 (bw w.heap.size w') A (alayV x).1.length c (bvs (alayV x).1) ∧ Fr none1 w w'
section
variable {w w0 : World} {x : Ac} {b r lv : Nat} {L : List Bool}
def ALaySt (w0 : World) (r lv : Nat) (x : Ac) (w : World) (b : Nat) (L : List Bool) : Prop :=
  WrK (fun k => k = r ∨ k = lv) w0.heap.size w b L ∧ AcB w r x ∧ Blk w lv 93 [.pointer (some ⟨b, 0, none⟩)] ∧ Bel w0.heap.size w0 w
theorem ALaySt.next {w' : World} {L' : List Bool} (h : ALaySt w0 r lv x w b L) (h1 : WrK (fun k => k = r ∨ k = lv) w0.heap.size w' b L') (f : Fr (butK (fun k => k = r ∨ k = lv) w0.heap.size) w w') : ALaySt w0 r lv x w' b L' :=
  ⟨h1, h.2.1.fr f fun h => h.2 (.inl rfl), h.2.2.1.fr f fun h => h.2 (.inr rfl), h.2.2.2.trans' (f.mono fun k _ h => h.1)⟩
theorem ALaySt.number (h : ALaySt w0 r lv x w b L) {n : Nat} (hn : n < 2 ^ 63) {m : Nat} (hm : m ≤ 64) (hl : L.length + 64 ≤ 1048576) :
    Ret Try.prog 44 [.agg ⟨[.pointer (some ⟨b, 0, none⟩)]⟩, .int .i64 (n : Int), .int .i64 (m : Int)] w fun v w' => v = .tuple ⟨[]⟩ ∧ ALaySt w0 r lv x w' b (L ++ nb n m) :=
  (number_ok h.1 hn hm hl).imp fun v w' ⟨h1, h2, h3⟩ => ⟨h1, h.next h2 h3⟩
end
theorem alay_ok (x : Ac) (w : World) : Ret Try.prog 26 [aval x] w (ALayP w x) := by
  apply S26_calls
  obtain ⟨b0, f0⟩ := AcB.new w x
  unfold S26
  generalize hw1 : w.alloc (.cells ⟨[.int .u8 x.k, .int .i64 x.c, .int .i64 x.p]⟩ 67) = w1
  have hw1' : w.alloc (.cells ⟨acell x⟩ 67) = w1 := hw1
  rw [hw1'] at b0 f0
  have hrlt := b0.lt
  have hBr : w.heap.size ≤ w.heap.size := Nat.le_refl _
  generalize hrr : w.heap.size = r at b0 hrlt ⊢
  refine ⟨_, b0.c0, _, b0.c1, _, b0.c2, ?_⟩
  refine (may_ok x w1).use ?_
  rintro v w2 ⟨rfl, f2⟩
  refine ⟨_, rfl, ?_⟩
  have f02 := f0.trans' f2
  have b2 := Blk.fr b0 f2 fun h => h
  by_cases hr : may x
  · rw [decide_eq_true hr]
    refine cF rfl ?_
    unfold S26_k0
    refine (wnew_ok w2).use ?_
    rintro v w3 ⟨rfl, h3, f3⟩
    refine ⟨_, rfl, ?_⟩
    have b3 := Blk.fr b2 f3 fun h => h
    have bl := Blk.new w3 93 [.pointer none]
    have f4 : Fr none1 w3 (w3.alloc (.cells ⟨[.pointer none]⟩ 93)) := Fr.alloc _ _
    obtain ⟨⟨s1, s2⟩, bl2, f5⟩ := bl.wr1 0 (by simp) (.pointer (some ⟨w2.heap.size, 0, none⟩))
    refine ⟨s1, s2, ?_⟩
    have hs3 := f3.size
    have hs2 := f02.size
    have hlt2 := h3.lt
    have hws : (WrAt ((w3.alloc (.cells ⟨[.pointer none]⟩ 93)).setCell ⟨w3.heap.size, 0, none⟩ (.pointer (some ⟨w2.heap.size, 0, none⟩))) (bw w2.heap.size w3) w2.heap.size []) := by
      refine ((h3.mono fun k hk h => (⟨h, hk⟩ : bw w2.heap.size w3 k)).fr f4 fun _ _ _ h => h).fr f5 fun k _ hk e => ?_
      have := hk.2; omega
    have b5 : AcB ((w3.alloc (.cells ⟨[.pointer none]⟩ 93)).setCell ⟨w3.heap.size, 0, none⟩ (.pointer (some ⟨w2.heap.size, 0, none⟩))) r x := by
      refine Blk.fr (Blk.fr b3 f4 fun h => h) f5 fun e => ?_
      have := b2.lt; omega
    have f35 : Fr none1 w3 ((w3.alloc (.cells ⟨[.pointer none]⟩ 93)).setCell ⟨w3.heap.size, 0, none⟩ (.pointer (some ⟨w2.heap.size, 0, none⟩))) := f4.trans f5 fun k hk e => by subst e; omega
    have hsz := bl2.lt
    have hb2lt := b2.lt
    generalize (w3.alloc (.cells ⟨[.pointer none]⟩ 93)).setCell ⟨w3.heap.size, 0, none⟩ (.pointer (some ⟨w2.heap.size, 0, none⟩)) = w5 at hws b5 f35 bl2 hsz ⊢
    have g5 : Bel w.heap.size w w5 := (f02.trans' (f3.trans' f35)).bel0
    have st : ALaySt w r w3.heap.size x w5 w2.heap.size [] := by
      refine ⟨⟨bw w2.heap.size w3, hws, fun k hk => ⟨by have := hk.1; omega, fun e => ?_⟩, fun k e => ?_, g5.size⟩, b5, bl2, g5⟩
      · rcases e with e | e
        · have := hk.1; omega
        · have := hk.2; omega
      · rcases e with e | e
        · have := b5.lt; omega
        · omega
    obtain ⟨⟨k1, k2⟩, ⟨c1, c2⟩, ⟨p1, p2⟩, _⟩ := hr
    generalize w3.heap.size = lv at st ⊢
    generalize w2.heap.size = b at st ⊢
    have ek : x.k = ((x.k.toNat : Nat) : Int) := by omega
    have ec : x.c = ((x.c.toNat : Nat) : Int) := by omega
    have ep : x.p = ((x.p.toNat : Nat) : Int) := by omega
    refine ⟨_, (st.2.2.1.cell 0).trans rfl, _, st.2.1.c0, ?_⟩
    rw [IntWalk.i64_in x.k (by omega)]
    have hnum := st.number (n := x.k.toNat) (m := 2) (by omega) (by decide) (by simp)
    rw [← ek] at hnum
    refine hnum.use ?_
    rintro v w6 ⟨rfl, st6⟩
    rw [List.nil_append] at st6
    refine ⟨rfl, _, (st6.2.2.1.cell 0).trans rfl, _, st6.2.1.c1, ?_⟩
    have hnum := st6.number (n := x.c.toNat) (m := 8) (by omega) (by decide) (by rw [nb_length]; decide)
    rw [← ec] at hnum
    refine hnum.use ?_
    rintro v w7 ⟨rfl, st7⟩
    refine ⟨rfl, _, (st7.2.2.1.cell 0).trans rfl, _, st7.2.1.c2, ?_⟩
    have hnum := st7.number (n := x.p.toNat) (m := 6) (by omega) (by decide) (by rw [List.length_append, nb_length, nb_length]; decide)
    rw [← ep] at hnum
    refine hnum.use ?_
    rintro v w8 ⟨rfl, st8⟩
    rw [List.append_assoc] at st8
    obtain ⟨⟨ok, h1, h2, h3, h4⟩, _, bl, g⟩ := st8
    refine ⟨rfl, _, (bl.cell 0).trans rfl, ?_⟩
    refine (wout_ok h1).use ?_
    rintro v w9 ⟨A, c, rfl, o1, f9⟩
    have e : alayV x = (pk (ab x), 0) := if_pos ⟨⟨k1, k2⟩, ⟨c1, c2⟩, ⟨p1, p2⟩, by assumption⟩
    refine ⟨_, _, _, rfl, A, c, by rw [e]; rfl, ?_, (g.trans' f9.bel0).top⟩
    rw [e]
    exact o1.mono fun k hk h => ⟨Nat.le_trans h4 h, hk⟩
  · rw [decide_eq_false hr]
    have e : alayV x = ([], 1) := if_neg hr
    refine cT rfl ⟨none, 0, by rw [e]; rfl, by rw [e]; exact Own.nil _ _ _ _, f02⟩
section
variable {w w0 : World} {x : Ac} {r : Nat} {L : List Bool} {A : Option Addr} {c : Nat}
end
end Go.Proofs
