/- A record's bytes: contracts of the program and of the reference. -/
import Derived.Test.YtmhjjhpgbafjpaaRcCtop
set_option linter.unusedVariables false
namespace Go.Proofs
open Go Go.Eng
/-- A writer that leaves the blocks of K. -/
def WrK (K : Nat → Prop) (B : Nat) (w : World) (b : Nat) (L : List Bool) : Prop := ∃ ok, WrAt w ok b L ∧ (∀ k, ok k → B ≤ k ∧ ¬ K k) ∧ (∀ k, K k → k < w.heap.size) ∧ B ≤ w.heap.size
def butK (K : Nat → Prop) (B : Nat) : Nat → Prop := fun k => B ≤ k ∧ ¬ K k
section
variable {K : Nat → Prop} {B : Nat} {w : World} {b : Nat} {L : List Bool}
theorem WrK.step (h : WrK K B w b L) {f : Nat} {args : List Value} {Q : Value → Prop} {L' : List Bool} (hc : ∀ ok, WrAt w ok b L → Ret Try.prog f args w fun v w' => Q v ∧ WrAt w' (okp ok w) b L' ∧ Fr ok w w') :
    Ret Try.prog f args w fun v w' => Q v ∧ WrK K B w' b L' ∧ Fr (butK K B) w w' := by
  obtain ⟨ok, h1, h2, h3, h4⟩ := h
  refine (hc ok h1).imp fun v w' ⟨q, k1, f⟩ => ⟨q, ⟨okp ok w, k1, fun k hk => ?_, fun k hk => Nat.lt_of_lt_of_le (h3 k hk) f.size, Nat.le_trans h4 f.size⟩, f.mono fun k _ hk => h2 k hk⟩
  rcases hk with hk | hk
  · exact h2 k hk
  · exact ⟨Nat.le_trans h4 hk, fun hK => by have := h3 k hK; omega⟩
theorem WrK.fr0 (h : WrK K B w b L) {w' : World} (f : Fr none1 w w') : WrK K B w' b L := by
  obtain ⟨ok, h1, h2, h3, h4⟩ := h
  exact ⟨ok, h1.fr f fun _ _ _ h => h, h2, fun k hk => Nat.lt_of_lt_of_le (h3 k hk) f.size, Nat.le_trans h4 f.size⟩
theorem WrK.put (h : WrK K B w b L) {n : Nat} (hn : n < 2 ^ 64) {m : Nat} (hm : m ≤ 64) (hl : L.length + 64 ≤ 1048576) :
    Ret Try.prog 61 [.pointer (some ⟨b, 0, none⟩), .int .u64 (n : Int), .int .i64 (m : Int)] w fun v w' => v = .int .i64 0 ∧ WrK K B w' b (L ++ nb n m) ∧ Fr (butK K B) w w' := by
  have e := putE_eq (L := L) (many := (m : Int)) (by omega) (by omega)
  have h1 := h.step (Q := fun v => v = _) fun ok h => put_ok h hn (m : Int)
  rwa [putL_eq e, e, Int.toNat_natCast] at h1
theorem WrK.count (h : WrK K B w b L) {n : Nat} (hn : n < 2 ^ 63) (hl : L.length + 127 ≤ 1048576) :
    Ret Try.prog 45 [.pointer (some ⟨b, 0, none⟩), .int .u64 (n : Int)] w fun v w' => v = .int .i64 0 ∧ WrK K B w' b (L ++ cb n) ∧ Fr (butK K B) w w' := by
  obtain ⟨e1, e2, _⟩ := cntE_eq hn hl
  have h1 := h.step (Q := fun v => v = _) fun ok h => count_ok h (n := n) (by omega)
  rwa [e2, e1] at h1
theorem number_ok (h : WrK K B w b L) {n : Nat} (hn : n < 2 ^ 63) {m : Nat} (hm : m ≤ 64) (hl : L.length + 64 ≤ 1048576) :
    Ret Try.prog 44 [.agg ⟨[.pointer (some ⟨b, 0, none⟩)]⟩, .int .i64 (n : Int), .int .i64 (m : Int)] w fun v w' => v = .tuple ⟨[]⟩ ∧ WrK K B w' b (L ++ nb n m) ∧ Fr (butK K B) w w' := by
  apply S44_calls
  have b0 := Blk.new w 93 [.pointer (some ⟨b, 0, none⟩)]
  have f0 : Fr none1 w (w.alloc (.cells ⟨[.pointer (some ⟨b, 0, none⟩)]⟩ 93)) := Fr.alloc _ _
  refine ⟨_, (b0.cell 0).trans rfl, ?_⟩
  rw [IntWalk.u64_in (n : Int) (by omega)]
  refine ((h.fr0 f0).put (n := n) (by omega) hm hl).use ?_
  rintro v w1 ⟨rfl, h1, f1⟩
  exact ⟨_, rfl, rfl, h1, (f0.mono fun _ _ h => h.elim).trans' f1⟩
end
theorem cb_le {n : Nat} (h : n ≤ 1073741824) : (cb n).length ≤ 63 := by
  have hk : lg (n + 1) < 31 := lg_lt (by omega) (by omega)
  rw [cb_length]; omega
theorem rb_le {x : Rc} (h : right x) : (rb x).length ≤ 200 := by
  obtain ⟨_, _, _, _, ⟨_, h2⟩, _⟩ := h
  have := cb_le (n := x.i.toNat) (by omega)
  unfold rb
  simp only [List.length_append, nb_length]
  split <;> split <;> split <;> simp [nb_length] <;> omega
/-- What Lay answers. -/
def LayP (w : World) (x : Rc) (v : Value) (w' : World) : Prop := ∃ A c, v = .tuple ⟨[.slice A (layV x).1.length c, .int .i64 (layV x).2]⟩ ∧ Own w' 5 1 (bw w.heap.size w') A (layV x).1.length c (bvs (layV x).1) ∧ Fr none1 w w'
section
variable {w w0 : World} {x : Rc} {b r lv : Nat} {L : List Bool}
/-- The state while a record is laid. -/
def LaySt (w0 : World) (r lv : Nat) (x : Rc) (w : World) (b : Nat) (L : List Bool) : Prop :=
  WrK (fun k => k = r ∨ k = lv) w0.heap.size w b L ∧ RcB w r x ∧ Blk w lv 93 [.pointer (some ⟨b, 0, none⟩)] ∧ Bel w0.heap.size w0 w
theorem LaySt.next {w' : World} {L' : List Bool} (h : LaySt w0 r lv x w b L) (h1 : WrK (fun k => k = r ∨ k = lv) w0.heap.size w' b L') (f : Fr (butK (fun k => k = r ∨ k = lv) w0.heap.size) w w') : LaySt w0 r lv x w' b L' :=
  ⟨h1, h.2.1.fr f fun h => h.2 (.inl rfl), h.2.2.1.fr f fun h => h.2 (.inr rfl), h.2.2.2.trans' (f.mono fun k _ h => h.1)⟩
theorem LaySt.number (h : LaySt w0 r lv x w b L) {n : Nat} (hn : n < 2 ^ 63) {m : Nat} (hm : m ≤ 64) (hl : L.length + 64 ≤ 1048576) :
    Ret Try.prog 44 [.agg ⟨[.pointer (some ⟨b, 0, none⟩)]⟩, .int .i64 (n : Int), .int .i64 (m : Int)] w fun v w' => v = .tuple ⟨[]⟩ ∧ LaySt w0 r lv x w' b (L ++ nb n m) :=
  (number_ok h.1 hn hm hl).imp fun v w' ⟨h1, h2, h3⟩ => ⟨h1, h.next h2 h3⟩
theorem lay_k3 (h : LaySt w0 r lv x w b (rb x)) (hr : right x) : S8_k3 ⟨lv, 0, none⟩ w (LayP w0 x) := by
  obtain ⟨⟨ok, h1, h2, h3, h4⟩, _, bl, g⟩ := h
  refine ⟨_, (bl.cell 0).trans rfl, ?_⟩
  refine (wout_ok h1).use ?_
  rintro v w1 ⟨A, c, rfl, o1, f1⟩
  have e : layV x = (pk (rb x), 0) := if_pos hr
  refine ⟨_, _, _, rfl, A, c, by rw [e], ?_, (g.trans' f1.bel0).top⟩
  rw [e]
  exact o1.mono fun k hk h => ⟨Nat.le_trans h4 h, hk⟩
theorem lay_k2 (h : LaySt w0 r lv x w b L) (hr : right x) (hL : L ++ (if hasM x.k then nb x.p.toNat 6 ++ (nb x.c.toNat 8 ++ nb x.q.toNat 3) else []) = rb x) : S8_k2 ⟨r, 0, none⟩ (fld x.k) ⟨lv, 0, none⟩ (some ⟨b, 0, none⟩) w (LayP w0 x) := by
  have hrb := rb_le hr
  rw [← hL, List.length_append] at hrb
  unfold S8_k2
  rw [fldM, Bool.not_not]
  obtain ⟨_, _, _, _, _, _, ⟨p1, p2⟩, ⟨c1, c2⟩, ⟨q1, q2⟩⟩ := (right_iff x).1 hr
  refine cB (fun hM => ?_) (fun hM => ?_)
  · rw [if_pos hM] at hL
    have ep : x.p = ((x.p.toNat : Nat) : Int) := by omega
    have ec : x.c = ((x.c.toNat : Nat) : Int) := by omega
    have eq : x.q = ((x.q.toNat : Nat) : Int) := by omega
    refine ⟨_, h.2.1.c3, ?_⟩
    rw [ep]
    refine (h.number (n := x.p.toNat) (m := 6) (by omega) (by decide) (by omega)).use ?_
    rintro v w1 ⟨rfl, h1⟩
    refine ⟨rfl, _, h1.2.1.c4, ?_⟩
    rw [ec]
    refine (h1.number (n := x.c.toNat) (m := 8) (by omega) (by decide) (by rw [List.length_append, nb_length]; omega)).use ?_
    rintro v w2 ⟨rfl, h2⟩
    refine ⟨rfl, _, h2.2.1.c5, ?_⟩
    rw [eq]
    refine (h2.number (n := x.q.toNat) (m := 3) (by omega) (by decide) (by rw [List.length_append, List.length_append, nb_length, nb_length]; omega)).use ?_
    rintro v w3 ⟨rfl, h3⟩
    refine ⟨rfl, ?_⟩
    rw [List.append_assoc, List.append_assoc, hL] at h3
    exact lay_k3 h3 hr
  · rw [if_neg (by simp [hM]), List.append_nil] at hL
    rw [hL] at h
    exact lay_k3 h hr
theorem lay_k1 (h : LaySt w0 r lv x w b L) (hr : right x) (hL : L ++ ((if hasR x.k then nb x.r.toNat 3 else []) ++ (if hasM x.k then nb x.p.toNat 6 ++ (nb x.c.toNat 8 ++ nb x.q.toNat 3) else [])) = rb x) : S8_k1 ⟨r, 0, none⟩ (fld x.k) ⟨lv, 0, none⟩ (some ⟨b, 0, none⟩) w (LayP w0 x) := by
  have hrb := rb_le hr
  rw [← hL, List.length_append] at hrb
  unfold S8_k1
  rw [fldR, Bool.not_not]
  obtain ⟨_, _, _, _, _, ⟨r1, r2⟩, _⟩ := (right_iff x).1 hr
  refine cB (fun hR => ?_) (fun hR => ?_)
  · rw [if_pos hR] at hL
    have er : x.r = ((x.r.toNat : Nat) : Int) := by omega
    refine ⟨_, h.2.1.c2, ?_⟩
    rw [er]
    refine (h.number (n := x.r.toNat) (m := 3) (by omega) (by decide) (by omega)).use ?_
    rintro v w1 ⟨rfl, h1⟩
    exact ⟨rfl, lay_k2 h1 hr (by rw [← hL, List.append_assoc])⟩
  · rw [if_neg (by simp [hR]), List.nil_append] at hL
    exact lay_k2 h hr hL
end
theorem lay_ok (x : Rc) (w : World) : Ret Try.prog 8 [rval x] w (LayP w x) := by
  apply S8_calls
  have b0 : RcB (w.alloc (.cells ⟨rcell x⟩ 33)) w.heap.size x := Blk.new w 33 (rcell x)
  have f0 : Fr none1 w (w.alloc (.cells ⟨rcell x⟩ 33)) := Fr.alloc _ _
  unfold S8
  generalize hw1 : w.alloc (.cells ⟨[.int .u8 x.k, .int .i64 x.i, .int .i64 x.r, .int .i64 x.p, .int .i64 x.c, .int .i64 x.q]⟩ 33) = w1
  have hw1' : w.alloc (.cells ⟨rcell x⟩ 33) = w1 := hw1
  rw [hw1'] at b0 f0
  have hrlt := b0.lt
  have hBr : w.heap.size ≤ w.heap.size := Nat.le_refl _
  generalize hrr : w.heap.size = r at b0 hrlt ⊢
  refine ⟨_, b0.c0, _, b0.c1, _, b0.c2, _, b0.c3, _, b0.c4, _, b0.c5, ?_⟩
  refine (right_ok x w1).use ?_
  rintro v w2 ⟨rfl, f2⟩
  refine ⟨_, rfl, ?_⟩
  have f02 := f0.trans' f2
  have b2 := Blk.fr b0 f2 fun h => h
  by_cases hr : right x
  · rw [decide_eq_true hr]
    refine cF rfl ⟨_, RcB.c0 b2, ?_⟩
    refine (fields_ok x.k w2).use ?_
    rintro v w2 ⟨rfl, rfl⟩
    refine ⟨_, rfl, ?_⟩
    refine (wnew_ok w2).use ?_
    rintro v w3 ⟨rfl, h3, f3⟩
    refine ⟨_, rfl, ?_⟩
    have b3 := Blk.fr b2 f3 fun h => h
    have bl := Blk.new w3 93 [.pointer none]
    have f4 : Fr none1 w3 (w3.alloc (.cells ⟨[.pointer none]⟩ 93)) := Fr.alloc _ _
    obtain ⟨⟨s1, s2⟩, bl2, f5⟩ := bl.wr1 0 (by simp) (.pointer (some ⟨w2.heap.size, 0, none⟩))
    refine ⟨s1, s2, ?_⟩
    have hs3 := f3.size
    have hs2 := f02.size
    have hlt2 := h3.lt
    have hws : (WrAt ((w3.alloc (.cells ⟨[.pointer none]⟩ 93)).setCell ⟨w3.heap.size, 0, none⟩ (.pointer (some ⟨w2.heap.size, 0, none⟩))) (bw w2.heap.size w3) w2.heap.size []) := by
      refine ((h3.mono fun k hk h => (⟨h, hk⟩ : bw w2.heap.size w3 k)).fr f4 fun _ _ _ h => h).fr f5 fun k _ hk e => ?_
      have := hk.2; omega
    have b5 : RcB ((w3.alloc (.cells ⟨[.pointer none]⟩ 93)).setCell ⟨w3.heap.size, 0, none⟩ (.pointer (some ⟨w2.heap.size, 0, none⟩))) r x := by
      refine Blk.fr (Blk.fr b3 f4 fun h => h) f5 fun e => ?_
      have := b2.lt; omega
    have f35 : Fr none1 w3 ((w3.alloc (.cells ⟨[.pointer none]⟩ 93)).setCell ⟨w3.heap.size, 0, none⟩ (.pointer (some ⟨w2.heap.size, 0, none⟩))) := f4.trans f5 fun k hk e => by subst e; omega
    have hsz := bl2.lt
    have hb2lt := b2.lt
    generalize (w3.alloc (.cells ⟨[.pointer none]⟩ 93)).setCell ⟨w3.heap.size, 0, none⟩ (.pointer (some ⟨w2.heap.size, 0, none⟩)) = w5 at hws b5 f35 bl2 hsz ⊢
    have g5 : Bel w.heap.size w w5 := (f02.trans' (f3.trans' f35)).bel0
    have st : LaySt w r w3.heap.size x w5 w2.heap.size [] := by
      refine ⟨⟨bw w2.heap.size w3, hws, fun k hk => ⟨by have := hk.1; omega, fun e => ?_⟩, fun k e => ?_, g5.size⟩, b5, bl2, g5⟩
      · rcases e with e | e
        · have := hk.1; omega
        · have := hk.2; omega
      · rcases e with e | e
        · have := b5.lt; omega
        · omega
    obtain ⟨⟨k1, k2⟩, _, _, _, ⟨i1, i2⟩, _⟩ := (right_iff x).1 hr
    generalize w3.heap.size = lv at st ⊢
    generalize w2.heap.size = b at st ⊢
    have ek : x.k = ((x.k.toNat : Nat) : Int) := by omega
    refine ⟨_, (st.2.2.1.cell 0).trans rfl, _, st.2.1.c0, ?_⟩
    rw [IntWalk.i64_in x.k (by omega)]
    have hnum := st.number (n := x.k.toNat) (m := 3) (by omega) (by decide) (by simp)
    rw [← ek] at hnum
    refine hnum.use ?_
    rintro v w6 ⟨rfl, st6⟩
    rw [List.nil_append] at st6
    refine ⟨rfl, ?_⟩
    rw [fldI, Bool.not_not]
    refine cB (fun hI => ?_) (fun hI => ?_)
    · refine ⟨_, (st6.2.2.1.cell 0).trans rfl, _, st6.2.1.c1, ?_⟩
      have ei : x.i = ((x.i.toNat : Nat) : Int) := by omega
      rw [IntWalk.u64_in x.i (by omega), ei]
      refine (st6.1.count (n := x.i.toNat) (by omega) (by rw [nb_length]; decide)).use ?_
      rintro v w7 ⟨rfl, h7, f7⟩
      refine ⟨_, rfl, lay_k1 (st6.next h7 f7) hr ?_⟩
      unfold rb
      rw [if_pos hI, List.append_assoc]
    · refine lay_k1 st6 hr ?_
      unfold rb
      rw [hI]
      simp only [Bool.false_eq_true, if_false, List.nil_append]
  · rw [decide_eq_false hr]
    have e : layV x = ([], 1) := if_neg hr
    refine cT rfl ⟨none, 0, by rw [e]; rfl, by rw [e]; exact Own.nil _ _ _ _, f02⟩
section
variable {w w0 : World} {x : Rc} {r : Nat} {L : List Bool} {A : Option Addr} {c : Nat}
end
end Go.Proofs
