/- The law of what a writer lays. -/
import Derived.Test.YteakjgckampkbaaBitS01
set_option linter.unusedVariables false
namespace Go.Proofs
open Go Go.Eng
abbrev Pt := Bool × Nat × Int
def PutQ (w : World) (a : Addr) (x : Pt) : Prop := w.cell? a = some (.bool x.1) ∧ w.cell? (a.add 1) = some (.int .u64 (x.2.1 : Int)) ∧ w.cell? (a.add 2) = some (.int .i64 x.2.2) ∧ x.2.1 < 2 ^ 64
theorem PutQ.fr {w w' : World} {B : Nat} {a : Addr} {x : Pt} (h : PutQ w a x) (hB : B ≤ w.heap.size) (hb : a.block < B) (g : Bel B w w') : PutQ w' a x := by
  obtain ⟨h1, h2, h3, h4⟩ := h
  have hc : ∀ j, w'.cell? (a.add j) = w.cell? (a.add j) := fun j => g.cell (by rw [add_block]; omega) (by rw [add_block]; simp only [from1]; omega)
  refine ⟨?_, by rw [hc]; exact h2, by rw [hc]; exact h3, h4⟩
  have := hc 0
  rw [add_zero'] at this
  rw [this]; exact h1
theorem few_ok {W w : World} {A : Option Addr} {l c : Nat} {tl : List Pt} (h : RowAt W.heap.size 3 (PutQ W) A tl) (hl : tl.length = l) (hc : l ≤ c) :
    Ret Try.prog 12 [.slice A l c] w fun v w' => w' = w ∧ ∃ m : Nat, v = .slice A m c ∧ m = min l 300 ∧ RowAt W.heap.size 3 (PutQ W) A (tl.take m) ∧ (tl.take m).length = m := by
  apply S12_calls
  obtain ⟨m, hm0, hm'⟩ := upto_n l 300
  have hm2 : (if (300 : Int) < ((l : Nat) : Int) then (300 : Int) else ((l : Nat) : Int)) = (m : Int) := hm0
  unfold S12
  rw [hm2, Int.toNat_natCast, Nat.sub_zero, slAddr_zero]
  exact ⟨by omega, by omega, rfl, m, rfl, hm', h.take m, by rw [List.length_take]; omega⟩
/-- A writer and a row of bits, apart, and apart from a block t. -/
def Lay (B t : Nat) (w : World) (b : Nat) (L : List Bool) (A : Option Addr) (c : Nat) (M : List Bool) : Prop :=
  ∃ okW okA : Nat → Prop, WrAt w okW b L ∧ Own w 4 1 okA A M.length c (bls M) ∧ (∀ k, okW k → okA k → False) ∧ (∀ k, okW k → B ≤ k ∧ k ≠ t) ∧ (∀ k, okA k → B ≤ k ∧ k ≠ t)
def but (B t : Nat) : Nat → Prop := fun k => B ≤ k ∧ k ≠ t
section
variable {B t : Nat} {w : World} {b : Nat} {L M : List Bool} {A : Option Addr} {c : Nat}
theorem Lay.fr0 {w' : World} (h : Lay B t w b L A c M) (f : Fr none1 w w') : Lay B w.heap.size w' b L A c M := by
  obtain ⟨o1, o2, h1, h2, hd, s1, s2⟩ := h
  exact ⟨fun k => o1 k ∧ k < w.heap.size, fun k => o2 k ∧ k < w.heap.size, (h1.mono fun k hk h => ⟨h, hk⟩).fr f (fun _ _ _ h => h), (h2.mono fun k hk h => ⟨h, hk⟩).fr f (fun _ _ _ h => h), fun k a b => hd k a.1 b.1, fun k a => ⟨(s1 k a.1).1, by omega⟩, fun k a => ⟨(s2 k a.1).1, by omega⟩⟩
theorem Lay.stepW (h : Lay B t w b L A c M) (hB : B ≤ w.heap.size) (ht : t < w.heap.size) {f : Nat} {args : List Value} {Q : Value → Prop} {L' : List Bool}
    (hc : ∀ ok, WrAt w ok b L → Ret Try.prog f args w fun v w' => Q v ∧ WrAt w' (okp ok w) b L' ∧ Fr ok w w') : Ret Try.prog f args w fun v w' => Q v ∧ Lay B t w' b L' A c M ∧ Fr (but B t) w w' := by
  obtain ⟨o1, o2, h1, h2, hd, s1, s2⟩ := h
  refine (hc o1 h1).imp fun v w' ⟨q, h1', f⟩ => ⟨q, ⟨okp o1 w, fun k => o2 k ∧ k < w.heap.size, h1', (h2.mono fun k hk h => ⟨h, hk⟩).fr f fun k _ hk e => hd k e hk.1, fun k a b => ?_, fun k a => ?_, fun k a => s2 k a.1⟩, f.mono fun k _ h => s1 k h⟩
  · rcases a with a | a
    · exact hd k a b.1
    · have := b.2; omega
  · rcases a with a | a
    · exact s1 k a
    · exact ⟨by omega, by omega⟩
theorem Lay.app (h : Lay B t w b L A c M) (hB : B ≤ w.heap.size) (ht : t < w.heap.size) {N : List Bool} {A2 : Option Addr} {c2 : Nat} {ok2 : Nat → Prop} (hN : Rd w ok2 A2 (bls N)) (hl : M.length + N.length ≤ 1000000) :
    ∃ A' c' w', (Builtin.append_ #[26, 26] 26 ⟨[.slice A M.length c, .slice A2 N.length c2]⟩).run Try.prog w = .ok (.slice A' (M ++ N).length c') w' ∧ Lay B t w' b L A' c' (M ++ N) ∧ Fr (but B t) w w' := by
  obtain ⟨o1, o2, h1, h2, hd, s1, s2⟩ := h
  obtain ⟨A', c', w', r, o, f, _⟩ := run_append (ty := 26) (m := N.length) (c2 := c2) Ebo h2 (by rw [bls_length]; omega) hN (bls_one _) (by omega) (by simp only [maxLen]; omega)
  have hown : ∀ k, ownAt A k → o2 k := fun k ⟨a, ha, e⟩ => e ▸ (h2.has a ha).1
  refine ⟨A', c', w', by rw [List.length_append]; exact r, ⟨fun k => o1 k ∧ k < w.heap.size, fun k => o2 k ∨ w.heap.size ≤ k, (h1.mono fun k hk h => ⟨h, hk⟩).fr f fun k _ hk e => hd k hk.1 (hown k e), by rw [List.length_append, bls_append]; exact o, fun k a b => ?_, fun k a => s1 k a.1, fun k a => ?_⟩, f.mono fun k _ h => s2 k (hown k h)⟩
  · rcases b with b | b
    · exact hd k a.1 b
    · have := a.2; omega
  · rcases a with a | a
    · exact s2 k a
    · exact ⟨by omega, by omega⟩
end
section
variable {W : World}
theorem lays_k10 {b : Nat} {L : List Bool} {A : Option Addr} {c t : Nat} {w : World} (h : Lay W.heap.size t w b L A c L) (hg : Bel W.heap.size W w) (hL : L.length ≤ 1000000) :
    S3_k10 true (some ⟨b, 0, none⟩) A L.length c true w (Done W) := by
  have fd : Fr none1 w w.drew := Fr.drew w
  have h1 := h.fr0 fd
  have g1 := hg.trans' fd.bel0
  refine cT rfl (cT rfl ?_)
  generalize w.heap.size = N at h1
  generalize w.drew = w1 at h1 g1 ⊢
  obtain ⟨o1, o2, h1, h2, hd, s1, s2⟩ := h1
  refine (wout_ok h1).use ?_
  rintro v w2 ⟨A2, c2, rfl, o2', f2⟩
  have hrow := h2.fr f2 fun _ _ _ h => h
  have g2 := g1.trans' f2.bel0
  have byt := fbytes_ok (cl := c) hrow.rd (by omega)
  refine ⟨_, _, _, rfl, ⟨_, w2, run_toString Uby Uu8 Ustr rfl o2'.rd, ?_⟩, ?_⟩
  · refine byt.use ?_
    rintro v w3 ⟨A3, c3, rfl, o3, f3⟩
    refine ⟨_, _, _, rfl, _, w3, run_toString Uby Uu8 Ustr rfl o3.rd, by simp, (g2.trans' f3.bel0).top⟩
  · refine byt.use ?_
    rintro v w3 ⟨A3, c3, rfl, o3, f3⟩
    have o4 := o2'.fr f3 fun _ _ _ h => h
    exact ⟨_, _, _, rfl, ⟨_, w3, run_toString Uby Uu8 Ustr rfl o4.rd, _, w3, run_toString Uby Uu8 Ustr rfl o3.rd, by simp, (g2.trans' f3.bel0).top⟩, ⟨_, w3, run_toString Uby Uu8 Ustr rfl o3.rd, _, w3, run_toString Uby Uu8 Ustr rfl o4.rd, by simp, (g2.trans' f3.bel0).top⟩⟩
theorem lays_k7 {b N : Nat} {L : List Bool} {A Ab : Option Addr} {c cb' lb : Nat} {vs : List Value} {w : World} {okW okA : Nat → Prop} (h1 : WrAt w okW b L) (h2 : Own w 4 1 okA A L.length c (bls L)) (hd : ∀ k, okW k → okA k → False)
    (s1 : ∀ k, okW k → W.heap.size ≤ k ∧ k < N) (s2 : ∀ k, okA k → W.heap.size ≤ k ∧ k < N) (ho : Own w 5 1 (from1 N) Ab lb cb' vs) (hv : ∀ v ∈ vs, ∃ n, v = .int .u8 n) (hg : Bel W.heap.size W w) (hN : W.heap.size ≤ N) (hlb : lb ≤ 1000000) (hL : L.length ≤ 1000000) :
    S3_k7 true (some ⟨b, 0, none⟩) A L.length c Ab lb cb' true w (Done W) := by
  refine ⟨fun s w' => ∃ (n : Nat) (vs : List Value), s.1 = (n : Int) ∧ n ≤ lb ∧ WrAt w' okW b L ∧ Own w' 4 1 okA A L.length c (bls L) ∧ Own w' 5 1 (from1 N) Ab lb cb' vs ∧ (∀ v ∈ vs, ∃ n, v = .int .u8 n) ∧ Bel W.heap.size W w', fun s _ => lb - s.1.toNat, ⟨0, vs, rfl, Nat.zero_le _, h1, h2, ho, hv, hg⟩, ?_⟩
  rintro J ⟨i, ⟨⟩⟩ w1 ⟨n, vs1, hi, hn, k1, k2, k3, k4, k5⟩
  dsimp only at hi ⊢
  subst hi
  refine cD (fun hlt => ?_) (fun hlt => ?_)
  · obtain ⟨a, x, e1, e2, e3, e4, e5⟩ := byte_step k3 k4 (i := n) (by omega)
    obtain ⟨vs', o6, v6, f6⟩ := e5 (bitsI .xor .u8 x 255)
    refine ⟨a, e1, by omega, by omega, x, e2, a, e1, by omega, by omega, e3, e4, ?_⟩
    rw [IntWalk.i64_in ((n : Int) + 1) (by omega)]
    have hN' : ∀ k, ownAt Ab k → N ≤ k := fun k ⟨a, ha, e⟩ => e ▸ (k3.has a ha).1
    refine ⟨⟨n + 1, vs', rfl, by omega, k1.fr f6 fun k _ hk e => ?_, k2.fr f6 fun k _ hk e => ?_, o6, v6, k5.trans' (f6.bel fun k e => Nat.le_trans hN (hN' k e))⟩, by dsimp only; omega⟩
    · have := hN' k e; have := (s1 k hk).2; omega
    · have := hN' k e; have := (s2 k hk).2; omega
  · exact lays_k10 (t := N) ⟨okW, okA, k1, k2, hd, fun k hk => ⟨(s1 k hk).1, by have := (s1 k hk).2; omega⟩, fun k hk => ⟨(s2 k hk).1, by have := (s2 k hk).2; omega⟩⟩ k5 hL
theorem lays_k6 {b : Nat} {L : List Bool} {A : Option Addr} {c t : Nat} {w : World} (h : Lay W.heap.size t w b L A c L) (hg : Bel W.heap.size W w) (hL : L.length ≤ 1000000) :
    S3_k6 true (some ⟨b, 0, none⟩) A L.length c w (Done W) := by
  obtain ⟨o1, o2, h1, h2, hd, s1, s2⟩ := h
  refine (wout_ok h1).use ?_
  rintro v w2 ⟨A2, c2, rfl, ob, f2⟩
  refine ⟨_, _, _, rfl, ?_⟩
  have fd : Fr none1 w2 w2.drew := Fr.drew w2
  have ff := f2.trans' fd
  have ob' := ob.fr fd fun _ _ _ h => h
  have k1 := (h1.mono fun k hk h => (⟨h, hk⟩ : o1 k ∧ k < w.heap.size)).fr ff fun _ _ _ h => h
  have k2 := (h2.mono fun k hk h => (⟨h, hk⟩ : o2 k ∧ k < w.heap.size)).fr ff fun _ _ _ h => h
  have g2 := hg.trans' ff.bel0
  have hN := hg.size
  have hpl := pk_length L
  generalize w2.drew = w3 at ob' k1 k2 g2 ⊢
  have byt := fbytes_ok (cl := c) k2.rd (by omega)
  have fin : ∀ w4, Fr none1 w3 w4 → S3_k7 true (some ⟨b, 0, none⟩) A L.length c A2 (pk L).length c2 (decide (str (pk L) = str (pk L))) w4 (Done W) := by
    intro w4 f4
    rw [decide_eq_true rfl]
    exact lays_k7 (N := w.heap.size) (k1.fr f4 fun _ _ _ h => h) (k2.fr f4 fun _ _ _ h => h) (fun k a b => hd k a.1 b.1) (fun k a => ⟨(s1 k a.1).1, a.2⟩) (fun k a => ⟨(s2 k a.1).1, a.2⟩) (ob'.fr f4 fun _ _ _ h => h) (bvs_u8 _) (g2.trans' f4.bel0) hN (by omega) hL
  refine ⟨⟨_, w3, run_toString Uby Uu8 Ustr rfl ob'.rd, ?_⟩, ?_⟩
  · refine byt.use ?_
    rintro v w4 ⟨A3, c3, rfl, o3, f3⟩
    exact ⟨_, _, _, rfl, _, w4, run_toString Uby Uu8 Ustr rfl o3.rd, fin w4 f3⟩
  · refine byt.use ?_
    rintro v w4 ⟨A3, c3, rfl, o3, f3⟩
    have o4 := ob'.fr f3 fun _ _ _ h => h
    exact ⟨_, _, _, rfl, ⟨_, w4, run_toString Uby Uu8 Ustr rfl o4.rd, _, w4, run_toString Uby Uu8 Ustr rfl o3.rd, fin w4 f3⟩, ⟨_, w4, run_toString Uby Uu8 Ustr rfl o3.rd, _, w4, run_toString Uby Uu8 Ustr rfl o4.rd, fin w4 f3⟩⟩
theorem lays_k3 {B1 : (Option Addr × Nat × Nat) × Int × Unit → World → Prop} {b t : Nat} {L : List Bool} {A At : Option Addr} {c lt ct cnt : Nat} {n a : Int} {w : World} (h : Lay W.heap.size t w b L A c L) (hcnt : (cnt : Int) + 1 ≤ 1000)
    (k : B1 ((A, L.length, c), (cnt : Int) + 1, ()) w) :
    S3_k3 true (some ⟨b, 0, none⟩) A L.length c a a At lt ct n (cnt : Int) w (Done W) B1 := by
  refine cF (by simp) ?_
  have h' := h
  obtain ⟨o1, o2, h1, _⟩ := h'
  refine (wlen_ok h1).use ?_
  rintro v w ⟨rfl, rfl⟩
  refine ⟨_, rfl, cF (by simp) ?_⟩
  rw [IntWalk.i64_in ((cnt : Int) + 1) (by omega)]
  exact k
theorem bitsLays_ok {A : Option Addr} {l c : Nat} {tl : List Pt} (h : RowAt W.heap.size 3 (PutQ W) A tl) (hl : tl.length = l) (hc : l ≤ c) : Ret Try.prog 3 [.slice A l c] W (Done W) := by
  apply S3_calls
  refine (shown_ok W).use ?_
  rintro v w1 ⟨rfl, f1⟩
  refine ⟨_, rfl, ?_⟩
  refine (wnew_ok w1).use ?_
  rintro v w2 ⟨rfl, h2, f2⟩
  refine ⟨_, rfl, cF rfl ?_⟩
  refine (few_ok h hl hc).use ?_
  rintro v w2 ⟨rfl, m, rfl, hm, hrow, hlen⟩
  refine ⟨_, _, _, rfl, ?_⟩
  generalize tl.take m = ts at hrow hlen
  have s1 := f1.size
  have g2 : Bel W.heap.size W w2 := (f1.trans' f2).bel0
  have lay2 : Lay W.heap.size w2.heap.size w2 w1.heap.size [] none 0 [] := ⟨fun k => W.heap.size ≤ k ∧ k < w2.heap.size, fun _ => False, h2.mono fun k hk h => ⟨Nat.le_trans s1 h, hk⟩, Own.nil _ _ _ _, fun _ _ h => h, fun k h => ⟨h.1, by have := h.2; omega⟩, fun _ h => h.elim⟩
  generalize w1.heap.size = b at lay2 ⊢
  refine ⟨fun s w' => ∃ (n t : Nat) (L : List Bool), s.2.1 = (n : Int) ∧ n ≤ m ∧ L.length ≤ 127 * n ∧ s.1.2.1 = L.length ∧ Lay W.heap.size t w' b L s.1.1 s.1.2.2 L ∧ Bel W.heap.size W w', fun s _ => m - s.2.1.toNat, ⟨0, _, [], rfl, Nat.zero_le _, Nat.zero_le _, rfl, lay2, g2⟩, ?_⟩
  rintro J ⟨⟨A4, l4, c4⟩, i, ⟨⟩⟩ w4 ⟨n, t, L, hi, hn, hL, hl4, h4, g4⟩
  dsimp only at hi hl4 h4 ⊢
  subst hi hl4
  refine cD (fun hlt => ?_) (fun hlt => lays_k6 h4 g4 (by omega))
  have hx : ts[n]? = some ts[n] := List.getElem?_eq_getElem (by omega)
  obtain ⟨a, rfl, hab, hq⟩ := hrow n _ hx
  generalize ts[n] = x at hx hq
  obtain ⟨q1, q2, q3, q4⟩ := hq.fr (Nat.le_refl _) (by rw [add_block]; exact hab) g4
  obtain ⟨xc, xn, xm⟩ := x
  dsimp only at q1 q2 q3 q4
  refine ⟨a, rfl, by omega, by omega, _, by rw [Int.toNat_natCast]; exact q1, _, by rw [Int.toNat_natCast]; exact q2, _, by rw [Int.toNat_natCast]; exact q3, ?_⟩
  obtain ⟨p1, p2, p3, p4, p5, p6, b5, f5⟩ := cp3 w4 30 (.bool false) (.int .u64 0) (.int .i64 0) (.bool xc) (.int .u64 (xn : Int)) (.int .i64 xm)
  refine ⟨p1, p2, p3, p4, p5, p6, ?_⟩
  generalize World.setCell _ _ _ = w5 at b5 f5 ⊢
  have h5 := h4.fr0 f5
  have g5 := g4.trans' f5.bel0
  have ht := b5.lt
  have hB := g5.size
  generalize w4.heap.size = t at b5 h5 ht ⊢
  have nb1 : ¬ but W.heap.size t t := fun h => h.2 rfl
  have butB : ∀ {x y : World}, Fr (but W.heap.size t) x y → Bel W.heap.size x y := fun f => f.bel fun k h => h.1
  have c1 : ∀ {w'}, Blk w' t 30 [.bool xc, .int .u64 (xn : Int), .int .i64 xm] → w'.cell? ⟨t, 1, none⟩ = some (.int .u64 (xn : Int)) := fun b => (b.cell 1).trans rfl
  have c2 : ∀ {w'}, Blk w' t 30 [.bool xc, .int .u64 (xn : Int), .int .i64 xm] → w'.cell? ⟨t, 2, none⟩ = some (.int .i64 xm) := fun b => (b.cell 2).trans rfl
  have nx : ∀ w' (L' : List Bool) A' c', Lay W.heap.size t w' b L' A' c' L' → L'.length ≤ L.length + 127 → Bel W.heap.size W w' → (∃ (n_1 t : Nat) (L : List Bool), (n : Int) + 1 = (n_1 : Int) ∧ n_1 ≤ m ∧ L.length ≤ 127 * n_1 ∧ L'.length = L.length ∧ Lay W.heap.size t w' b L A' c' L ∧ Bel W.heap.size W w') ∧ m - ((n : Int) + 1).toNat < m - (n : Int).toNat :=
    fun w' L' A' c' hl hle g => ⟨⟨n + 1, t, L', by omega, by omega, by omega, rfl, hl, g⟩, by omega⟩
  refine ⟨_, (b5.cell 0).trans rfl, cB (fun hx1 => ?_) (fun hx1 => ?_)⟩
  · refine ⟨_, c1 b5, ?_⟩
    refine (h5.stepW (Q := fun v => v = _) hB ht fun ok h => count_ok h (n := xn) q4).use ?_
    rintro v w6 ⟨rfl, h6, f6⟩
    have b6 := b5.fr f6 nb1
    have g6 := g5.trans' (butB f6)
    refine ⟨_, rfl, _, c1 b6, cD (fun he => ?_) (fun he => ?_)⟩
    · have e1 : cntE L xn = 1 := by unfold cntE; rw [if_pos (by omega)]
      have e2 : cntL L xn = L := by unfold cntL; rw [if_neg (by rw [e1]; decide)]
      rw [e2] at h6
      rw [e1]
      exact lays_k3 h6 (by omega) (nx _ _ _ _ h6 (by omega) g6)
    · refine ⟨_, c1 b6, ?_⟩
      have hk : lg (xn + 1) < 64 := lg_lt (by omega) (by omega)
      have e1 : cntE L xn = 0 := by unfold cntE; rw [if_neg (by omega), if_neg (by omega)]
      have e2 : cntL L xn = L ++ cb xn := if_pos e1
      have hcl := cb_length xn
      rw [e2] at h6
      rw [e1]
      refine (fcount_ok (n := xn) (by omega) w6).use ?_
      rintro v w7 ⟨A7, c7, rfl, o7, f7⟩
      have h7 : Lay W.heap.size t w7 b (L ++ cb xn) A4 c4 L := by
        obtain ⟨o1, o2, k1, k2, hd, s1, s2⟩ := h6
        exact ⟨o1, o2, k1.fr f7 fun _ _ _ h => h, k2.fr f7 fun _ _ _ h => h, hd, s1, s2⟩
      have hB7 : W.heap.size ≤ w7.heap.size := Nat.le_trans hB (Nat.le_trans f6.size f7.size)
      have ht7 : t < w7.heap.size := Nat.lt_of_lt_of_le ht (Nat.le_trans f6.size f7.size)
      obtain ⟨A8, c8, w8, r8, h8, f8⟩ := h7.app hB7 ht7 (c2 := c7) o7.rd (by omega)
      exact ⟨_, _, _, rfl, _, _, _, w8, r8, lays_k3 h8 (by omega) (nx _ _ _ _ h8 (by rw [List.length_append]; omega) (g6.trans' (f7.bel0.trans' (butB f8))))⟩
  · refine ⟨_, c1 b5, _, c2 b5, ?_⟩
    refine (h5.stepW (Q := fun v => v = _) hB ht fun ok h => put_ok h (n := xn) q4 xm).use ?_
    rintro v w6 ⟨rfl, h6, f6⟩
    have b6 := b5.fr f6 nb1
    have g6 := g5.trans' (butB f6)
    have bad : (xm < 0 ∨ 64 < xm) → S3_k5 true (some ⟨b, 0, none⟩) A4 L.length c4 ⟨t, 0, none⟩ 0 (putE L xm) (some a) m c (m : Int) (n : Int) true w6 (Done W) (fun s' w'' => (∃ (n t : Nat) (L : List Bool), s'.2.1 = (n : Int) ∧ n ≤ m ∧ L.length ≤ 127 * n ∧ s'.1.2.1 = L.length ∧ Lay W.heap.size t w'' b L s'.1.1 s'.1.2.2 L ∧ Bel W.heap.size W w'') ∧ m - s'.2.1.toNat < m - (n : Int).toNat) := by
      intro hb
      have e1 : putE L xm = 1 := by unfold putE; rw [if_pos hb]
      have e2 : putL L xn xm = L := by unfold putL; rw [if_neg (by rw [e1]; decide)]
      rw [e2] at h6
      rw [e1]
      exact cT rfl (lays_k3 h6 (by omega) (nx _ _ _ _ h6 (by omega) g6))
    refine ⟨_, rfl, _, c2 b6, cD (fun he => bad (.inl he)) (fun he => ⟨_, c2 b6, ?_⟩)⟩
    by_cases he2 : 64 < xm
    · rw [decide_eq_true he2]; exact bad (.inr he2)
    · rw [decide_eq_false he2]
      have e1 : putE L xm = 0 := putE_eq (by omega) (by omega)
      rw [putL_eq e1] at h6
      rw [e1]
      obtain ⟨q, rfl⟩ : ∃ q : Nat, xm = (q : Int) := ⟨xm.toNat, by omega⟩
      rw [Int.toNat_natCast] at h6
      refine cF rfl ⟨_, c1 b6, _, c2 b6, ?_⟩
      refine (fbits_ok q4 (m := q) (by omega) w6).use ?_
      rintro v w7 ⟨A7, c7, rfl, o7, f7⟩
      have h7 : Lay W.heap.size t w7 b (L ++ nb xn q) A4 c4 L := by
        obtain ⟨o1, o2, k1, k2, hd, s1, s2⟩ := h6
        exact ⟨o1, o2, k1.fr f7 fun _ _ _ h => h, k2.fr f7 fun _ _ _ h => h, hd, s1, s2⟩
      have hB7 : W.heap.size ≤ w7.heap.size := Nat.le_trans hB (Nat.le_trans f6.size f7.size)
      have ht7 : t < w7.heap.size := Nat.lt_of_lt_of_le ht (Nat.le_trans f6.size f7.size)
      have hnl := nb_length xn q
      obtain ⟨A8, c8, w8, r8, h8, f8⟩ := h7.app hB7 ht7 (c2 := c7) o7.rd (by omega)
      rw [hnl] at r8
      exact ⟨_, _, _, rfl, _, _, _, w8, r8, lays_k3 h8 (by omega) (nx _ _ _ _ h8 (by rw [List.length_append]; omega) (g6.trans' (f7.bel0.trans' (butB f8))))⟩
end
end Go.Proofs
