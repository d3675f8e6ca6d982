/- What was laid is taken again, to the end. -/
import Derived.Test.YteakjgckampkbaaBitT01
set_option linter.unusedVariables false
namespace Go.Proofs
open Go Go.Eng
def enc (x : Pt) : List Bool := if x.1 then cb (x.2.1 % 2 ^ 63) else nb x.2.1 64
def encs (l : List Pt) : List Bool := l.flatMap enc
theorem enc_le (x : Pt) : (enc x).length ≤ 127 := by
  unfold enc
  split
  · have hk : lg (x.2.1 % 2 ^ 63 + 1) < 64 := lg_lt (by omega) (by omega)
    rw [cb_length]; omega
  · rw [nb_length]; decide
theorem encs_append (l m : List Pt) : encs (l ++ m) = encs l ++ encs m := by simp [encs]
theorem encs_le (l : List Pt) : (encs l).length ≤ 127 * l.length := by
  induction l with
  | nil => simp [encs]
  | cons x l ih =>
    have := enc_le x
    unfold encs at ih ⊢
    rw [List.flatMap_cons, List.length_append, List.length_cons]; omega
section
variable {W : World}
theorem bitsBack_ok {A : Option Addr} {l c : Nat} {tl : List Pt} (h : RowAt W.heap.size 3 (PutQ W) A tl) (hl : tl.length = l) (hc : l ≤ c) : Ret Try.prog 6 [.slice A l c] W (Done W) := by
  apply S6_calls
  refine (shown_ok W).use ?_
  rintro v w1 ⟨rfl, f1⟩
  refine ⟨_, rfl, ?_⟩
  refine (newB f1.size).use ?_
  rintro v w2 ⟨b, rfl, h2, f2⟩
  refine ⟨_, rfl, cF rfl ?_⟩
  refine (few_ok h hl hc).use ?_
  rintro v w2 ⟨rfl, m, rfl, hm, hrow, hlen⟩
  refine ⟨_, _, _, rfl, ?_⟩
  have hts : tl.take m = tl.take m := rfl
  generalize htk : tl.take m = ts at hrow hlen
  have g2 : Bel W.heap.size W w2 := (f1.trans' f2).bel0
  refine ⟨fun s w' => ∃ n : Nat, s.1 = (n : Int) ∧ n ≤ m ∧ WrB W.heap.size w' b (encs (ts.take n)) ∧ Bel W.heap.size W w', fun s _ => m - s.1.toNat, ⟨0, rfl, Nat.zero_le _, h2, g2⟩, ?_⟩
  rintro J ⟨i, ⟨⟩⟩ w4 ⟨n, hi, hn, h4, g4⟩
  dsimp only at hi ⊢
  subst hi
  refine cD (fun hlt => ?_) (fun hlt => ?_)
  · have hx : ts[n]? = some ts[n] := List.getElem?_eq_getElem (by omega)
    obtain ⟨a, rfl, hab, hq⟩ := hrow n _ hx
    have hle := encs_le (ts.take n)
    have et : encs (ts.take (n + 1)) = encs (ts.take n) ++ enc ts[n] := by
      rw [List.take_add_one, hx, encs_append]; simp [encs]
    generalize ts[n] = x at hx hq et
    rw [List.length_take] at hle
    obtain ⟨q1, q2, q3, q4⟩ := hq.fr (Nat.le_refl _) (by rw [add_block]; exact hab) g4
    refine ⟨a, rfl, by omega, by omega, _, by rw [Int.toNat_natCast]; exact q1, _, by rw [Int.toNat_natCast]; exact q2, _, by rw [Int.toNat_natCast]; exact q3, ?_⟩
    obtain ⟨p1, p2, p3, p4, p5, p6, b5, f5⟩ := cp3 w4 30 (.bool false) (.int .u64 0) (.int .i64 0) (.bool x.1) (.int .u64 (x.2.1 : Int)) (.int .i64 x.2.2)
    refine ⟨p1, p2, p3, p4, p5, p6, ?_⟩
    generalize World.setCell _ _ _ = w5 at b5 f5 ⊢
    have h5 := h4.fr0 f5
    have g5 := g4.trans' f5.bel0
    generalize w4.heap.size = t at b5 ⊢
    rw [IntWalk.i64_in ((n : Int) + 1) (by omega)]
    refine ⟨_, (b5.cell 0).trans rfl, cB (fun hx1 => ?_) (fun hx1 => ?_)⟩
    · refine ⟨_, (b5.cell 1).trans rfl, by decide, ?_⟩
      rw [mod63]
      have hlt63 : x.2.1 % 2 ^ 63 < 2 ^ 63 := Nat.mod_lt _ (by decide)
      obtain ⟨e1, e2, e3⟩ := cntE_eq (L := encs (ts.take n)) hlt63 (by omega)
      refine (countB h5 (n := x.2.1 % 2 ^ 63) (by omega)).use ?_
      rintro v w6 ⟨rfl, h6, g6⟩
      rw [e2] at h6
      refine ⟨_, rfl, ⟨n + 1, rfl, by omega, ?_, g5.trans' g6⟩, by dsimp only; omega⟩
      rw [et]; unfold enc; rw [if_pos hx1]; exact h6
    · refine ⟨_, (b5.cell 1).trans rfl, ?_⟩
      refine (putB h5 q4 64).use ?_
      have e := putE_eq (L := encs (ts.take n)) (many := 64) (by decide) (by omega)
      rw [putL_eq e]
      rintro v w6 ⟨rfl, h6, g6⟩
      refine ⟨_, rfl, ⟨n + 1, rfl, by omega, ?_, g5.trans' g6⟩, by dsimp only; omega⟩
      rw [et]; unfold enc; rw [if_neg (by simp [hx1])]; exact h6
  · have : m = n := by omega
    subst this
    rw [← hlen, List.take_length] at h4
    have hle := encs_le ts
    refine (wout_ok h4.1).use ?_
    rintro v w5 ⟨A5, c5, rfl, o5, f5⟩
    refine ⟨_, _, _, rfl, ?_⟩
    refine (rnewB (B := W.heap.size) o5.rd (by rw [pk_length]; omega) (Nat.le_trans h4.2 f5.size)).use ?_
    rintro v w6 ⟨r, rfl, h6, f6⟩
    have g6 := g4.trans' (f5.bel0.trans' f6.bel0)
    refine ⟨_, rfl, cF rfl ?_⟩
    obtain ⟨p, hp, hup⟩ : ∃ p, p < 8 ∧ up8 (pk (encs ts)) = encs ts ++ List.replicate p false :=
      ⟨8 * (((encs ts).length + 7) / 8) - (encs ts).length, by omega, up8_pk _⟩
    have hdr : ∀ i, i ≤ m → (up8 (pk (encs ts))).drop (encs (ts.take i)).length = encs (ts.drop i) ++ List.replicate p false := by
      intro i hi
      have e : encs ts = encs (ts.take i) ++ encs (ts.drop i) := by rw [← encs_append, List.take_append_drop]
      rw [hup]
      rw [e, List.append_assoc, List.drop_append_of_le_length (Nat.le_refl _), List.drop_length, List.nil_append]
    generalize pk (encs ts) = zs at hup hdr h6
    refine (few_ok h hl hc).use ?_
    rintro v w6 ⟨rfl, m2, rfl, hm2, hrow2, hlen2⟩
    have : m2 = m := by omega
    subst this
    refine ⟨_, _, _, rfl, ?_⟩
    refine ⟨fun s w' => ∃ i : Nat, s.1 = (i : Int) ∧ i ≤ m2 ∧ RdB W.heap.size w' r zs (encs (ts.take i)).length 0 ∧ Bel W.heap.size W w', fun s _ => m2 - s.1.toNat, ⟨0, rfl, Nat.zero_le _, h6, g6⟩, ?_⟩
    rintro J ⟨i', ⟨⟩⟩ w8 ⟨n, hi, hn, h8, g8⟩
    dsimp only at hi ⊢
    subst hi
    refine cD (fun hlt => ?_) (fun hlt => ?_)
    · have hx : ts[n]? = some ts[n] := List.getElem?_eq_getElem (by omega)
      obtain ⟨a, rfl, hab, hq⟩ := hrow n _ hx
      have hd : ts.drop n = ts[n] :: ts.drop (n + 1) := List.drop_eq_getElem_cons (by omega)
      have hdn := hdr n hn
      rw [hd] at hdn
      have et : encs (ts.take (n + 1)) = encs (ts.take n) ++ enc ts[n] := by
        rw [List.take_add_one, hx, encs_append]; simp [encs]
      have hdn' : (up8 zs).drop (encs (ts.take n)).length = enc ts[n] ++ (encs (ts.drop (n + 1)) ++ List.replicate p false) := by
        rw [hdn]
        unfold encs
        rw [List.flatMap_cons, List.append_assoc]
      clear hdn hd
      generalize ts[n] = x at hx hq et hdn'
      obtain ⟨q1, q2, q3, q4⟩ := hq.fr (Nat.le_refl _) (by rw [add_block]; exact hab) g8
      refine ⟨a, rfl, by omega, by omega, _, by rw [Int.toNat_natCast]; exact q1, _, by rw [Int.toNat_natCast]; exact q2, _, by rw [Int.toNat_natCast]; exact q3, ?_⟩
      obtain ⟨p1, p2, p3, p4, p5, p6, b5, f5'⟩ := cp3 w8 30 (.bool false) (.int .u64 0) (.int .i64 0) (.bool x.1) (.int .u64 (x.2.1 : Int)) (.int .i64 x.2.2)
      refine ⟨p1, p2, p3, p4, p5, p6, ?_⟩
      generalize World.setCell _ _ _ = w5 at b5 f5' ⊢
      have fd : Fr none1 w5 w5.drew := Fr.drew w5
      have h9 := (h8.fr0 f5').fr0 fd
      have g9 := g8.trans' (f5'.bel0.trans' fd.bel0)
      have b9 := b5.fr fd (fun h => h)
      generalize w5.drew = w9 at h9 g9 b9 ⊢
      have hrt : r ≠ w8.heap.size := by have := h8.1.lt; omega
      generalize w8.heap.size = t at b9 hrt ⊢
      have c1 : ∀ {w'}, Blk w' t 30 [.bool x.1, .int .u64 (x.2.1 : Int), .int .i64 x.2.2] → w'.cell? ⟨t, 1, none⟩ = some (.int .u64 (x.2.1 : Int)) := fun b => (b.cell 1).trans rfl
      have c0 : ∀ {w'}, Blk w' t 30 [.bool x.1, .int .u64 (x.2.1 : Int), .int .i64 x.2.2] → w'.cell? ⟨t, 0, none⟩ = some (.bool x.1) := fun b => (b.cell 0).trans rfl
      have nx : ∀ w', RdB W.heap.size w' r zs ((encs (ts.take n)).length + (enc x).length) 0 → Bel W.heap.size W w' → S6_k7 true (some ⟨r, 0, none⟩) (some a) m2 c (m2 : Int) (n : Int) false w' (Done W)
          (fun s' w'' => (∃ i : Nat, s'.1 = (i : Int) ∧ i ≤ m2 ∧ RdB W.heap.size w'' r zs (encs (ts.take i)).length 0 ∧ Bel W.heap.size W w'') ∧ m2 - s'.1.toNat < m2 - (n : Int).toNat) := by
        intro w' h' g'
        refine cF rfl ?_
        rw [IntWalk.i64_in ((n : Int) + 1) (by omega)]
        exact ⟨⟨n + 1, rfl, by omega, by rw [et, List.length_append]; exact h', g'⟩, by dsimp only; omega⟩
      refine ⟨_, c0 b9, cB (fun hx1 => ?_) (fun hx1 => ?_)⟩
      · have hlt63 : x.2.1 % 2 ^ 63 < 2 ^ 63 := Nat.mod_lt _ (by decide)
        have ee : enc x = cb (x.2.1 % 2 ^ 63) := by unfold enc; rw [if_pos hx1]
        rw [ee] at hdn' nx
        obtain ⟨e1, e2, e3⟩ := read_count hdn' (by omega) (by rw [up8_length]; exact h9.1.2.1)
        have hcnt := rcount_ok h9.1
        rw [e2, e3] at hcnt
        have fin : ∀ w', RdrAt w' (from1 W.heap.size) r zs ((encs (ts.take n)).length + (cb (x.2.1 % 2 ^ 63)).length) 0 → Fr (fun k => k = r) w9 w' → RdB W.heap.size w' r zs ((encs (ts.take n)).length + (cb (x.2.1 % 2 ^ 63)).length) 0 ∧ Bel W.heap.size W w' := fun w' h f => ⟨⟨h, Nat.le_trans h9.2 f.size⟩, g9.trans' (h9.bel f)⟩
        refine ⟨?_, _, c1 b9, by decide, ?_⟩
        · refine hcnt.use ?_
          rintro v w10 ⟨rfl, h10, f10⟩
          have b10 := b9.fr f10 (fun e => hrt e.symm)
          obtain ⟨k1, k2⟩ := fin w10 h10 f10
          refine ⟨_, rfl, _, c1 b10, by decide, ?_⟩
          rw [mod63]
          refine cF (by simp) ⟨_, c0 b10, ?_⟩
          rw [hx1]
          exact cF rfl ⟨nx w10 k1 k2, nx w10 k1 k2⟩
        · refine hcnt.use ?_
          rintro v w10 ⟨rfl, h10, f10⟩
          have b10 := b9.fr f10 (fun e => hrt e.symm)
          obtain ⟨k1, k2⟩ := fin w10 h10 f10
          refine ⟨_, rfl, ?_⟩
          rw [mod63]
          refine cF (by simp) ⟨_, c0 b10, ?_⟩
          rw [hx1]
          exact cF rfl ⟨nx w10 k1 k2, nx w10 k1 k2⟩
      · have ee : enc x = nb x.2.1 64 := by unfold enc; rw [if_neg (by simp [hx1])]
        rw [ee] at hdn' nx
        rw [nb_length] at nx
        obtain ⟨e1, e2, e3⟩ := read_get hdn' (by decide) (by rw [up8_length]; exact h9.1.2.1)
        have hgt := get_ok h9.1 ((64 : Nat) : Int)
        rw [e2, e3, Nat.mod_eq_of_lt q4] at hgt
        have one : Calls Try.prog 24 ⟨[.pointer (some ⟨r, 0, none⟩), .int .i64 64]⟩ w9 fun e w_ => ∃ (t61 : Int), e = .returned (.int .u64 t61) ∧ ∃ (t63 : Int), w_.cell? ⟨t, 1, none⟩ = some (.int .u64 t63) ∧
            S6_k7 true (some ⟨r, 0, none⟩) (some a) m2 c (m2 : Int) (n : Int) (!decide ((t61 : Int) = t63)) w_ (Done W)
          (fun s' w'' => (∃ i : Nat, s'.1 = (i : Int) ∧ i ≤ m2 ∧ RdB W.heap.size w'' r zs (encs (ts.take i)).length 0 ∧ Bel W.heap.size W w'') ∧ m2 - s'.1.toNat < m2 - (n : Int).toNat) := by
          refine hgt.use ?_
          rintro v w10 ⟨rfl, h10, f10⟩
          have b10 := b9.fr f10 (fun e => hrt e.symm)
          refine ⟨_, rfl, _, c1 b10, ?_⟩
          rw [show (!decide (((x.2.1 : Nat) : Int) = ((x.2.1 : Nat) : Int))) = false by simp]
          exact nx w10 ⟨h10, Nat.le_trans h9.2 f10.size⟩ (g9.trans' (h9.bel f10))
        have two : ∃ (t63 : Int), w9.cell? ⟨t, 1, none⟩ = some (.int .u64 t63) ∧ Calls Try.prog 24 ⟨[.pointer (some ⟨r, 0, none⟩), .int .i64 64]⟩ w9 fun e w_ => ∃ (t61 : Int), e = .returned (.int .u64 t61) ∧
            S6_k7 true (some ⟨r, 0, none⟩) (some a) m2 c (m2 : Int) (n : Int) (!decide ((t61 : Int) = t63)) w_ (Done W)
          (fun s' w'' => (∃ i : Nat, s'.1 = (i : Int) ∧ i ≤ m2 ∧ RdB W.heap.size w'' r zs (encs (ts.take i)).length 0 ∧ Bel W.heap.size W w'') ∧ m2 - s'.1.toNat < m2 - (n : Int).toNat) := by
          refine ⟨_, c1 b9, ?_⟩
          refine hgt.use ?_
          rintro v w10 ⟨rfl, h10, f10⟩
          refine ⟨_, rfl, ?_⟩
          rw [show (!decide (((x.2.1 : Nat) : Int) = ((x.2.1 : Nat) : Int))) = false by simp]
          exact nx w10 ⟨h10, Nat.le_trans h9.2 f10.size⟩ (g9.trans' (h9.bel f10))
        refine ⟨⟨_, c0 b9, ?_⟩, ⟨_, c0 b9, ?_⟩⟩
        · rw [hx1]; exact cT rfl ⟨one, two⟩
        · rw [hx1]; exact cT rfl ⟨one, two⟩
    · have : m2 = n := by omega
      subst this
      refine cT rfl ?_
      have hdm := hdr m2 (Nat.le_refl _)
      rw [List.drop_of_length_le (by omega : ts.length ≤ m2)] at hdm
      have hdm' : (up8 zs).drop (encs (ts.take m2)).length = List.replicate p false := hdm
      have hep := end_pad hdm' hp (by rw [up8_length]; exact h8.1.2.1)
      refine (endB h8).use ?_
      rintro v w9 ⟨rfl, h9, f9⟩
      refine ⟨_, rfl, cT (by rw [hep.1]; rfl) ?_⟩
      refine (leftB h9).use ?_
      rintro v w10 ⟨rfl, _, f10⟩
      refine ⟨_, rfl, ?_, (g8.trans' (f9.bel0.trans' f10.bel0)).top⟩
      have h2 : Rs.left ⟨up8 zs, (encs (ts.take m2)).length, 0⟩ = 8 * (zs.length : Int) - ((encs (ts.take m2)).length : Int) := by
        show ((up8 zs).length : Int) - ((encs (ts.take m2)).length : Int) = _
        rw [up8_length]; omega
      rw [hep.2] at h2
      have h3 : 8 * (zs.length : Int) - ((encs (ts.take m2)).length : Int) < 8 := by omega
      rw [decide_eq_true h3]
end
end Go.Proofs
