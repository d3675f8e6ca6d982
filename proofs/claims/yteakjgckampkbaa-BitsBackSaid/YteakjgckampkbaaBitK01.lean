/- The laws of the length of counts, and of what stands behind them. -/
import Derived.Test.YteakjgckampkbaaBitQ01
set_option linter.unusedVariables false
namespace Go.Proofs
open Go Go.Eng
/-- A reader of the call's own. -/
def RdB (B : Nat) (w : World) (b : Nat) (xs : List UInt8) (i : Nat) (E : Int) : Prop := RdrAt w (from1 B) b xs i E ∧ B ≤ w.heap.size
section
variable {B : Nat} {w : World} {b : Nat} {xs : List UInt8} {i : Nat} {E : Int}
theorem RdB.fr0 {w' : World} (h : RdB B w b xs i E) (f : Fr none1 w w') : RdB B w' b xs i E := ⟨h.1.fr f fun _ _ _ h => h, Nat.le_trans h.2 f.size⟩
theorem rnewB {A : Option Addr} {c : Nat} {ok : Nat → Prop} (h : Rd w ok A (bvs xs)) (hm : xs.length ≤ 1000000) (hB : B ≤ w.heap.size) :
    Ret Try.prog 20 [.slice A xs.length c] w fun v w' => ∃ b, v = .pointer (some ⟨b, 0, none⟩) ∧ RdB B w' b xs 0 0 ∧ Fr none1 w w' :=
  (rnew_ok h hm).imp fun v w' ⟨b, h1, h2, h3⟩ => ⟨b, h1, ⟨h2.mono fun k _ hk => Nat.le_trans hB hk.1, Nat.le_trans hB h3.size⟩, h3⟩
theorem RdB.bel (h : RdB B w b xs i E) {w' : World} (f : Fr (fun k => k = b) w w') : Bel B w w' := f.bel fun k e => by subst e; exact h.1.1
theorem leftB (h : RdB B w b xs i E) : Ret Try.prog 26 [.pointer (some ⟨b, 0, none⟩)] w fun v w' => v = .int .i64 (8 * (xs.length : Int) - (i : Int)) ∧ RdB B w' b xs i E ∧ Fr none1 w w' :=
  (left_ok h.1).imp fun v w' ⟨h1, h2, h3⟩ => ⟨h1, ⟨h2, Nat.le_trans h.2 h3.size⟩, h3⟩
theorem getB (h : RdB B w b xs i E) (many : Int) : Ret Try.prog 24 [.pointer (some ⟨b, 0, none⟩), .int .i64 many] w fun v w' => v = .int .u64 (getV ⟨up8 xs, i, E⟩ many : Int) ∧ RdB B w' b xs (getS ⟨up8 xs, i, E⟩ many).i (getS ⟨up8 xs, i, E⟩ many).E ∧ Bel B w w' :=
  (get_ok h.1 many).imp fun v w' ⟨h1, h2, h3⟩ => ⟨h1, ⟨h2, Nat.le_trans h.2 h3.size⟩, h.bel h3⟩
theorem rcountB (h : RdB B w b xs i E) : Ret Try.prog 22 [.pointer (some ⟨b, 0, none⟩)] w fun v w' => v = .int .u64 (rcV ⟨up8 xs, i, E⟩ : Int) ∧ RdB B w' b xs (rcS ⟨up8 xs, i, E⟩).i (rcS ⟨up8 xs, i, E⟩).E ∧ Bel B w w' :=
  (rcount_ok h.1).imp fun v w' ⟨h1, h2, h3⟩ => ⟨h1, ⟨h2, Nat.le_trans h.2 h3.size⟩, h.bel h3⟩
theorem endB (h : RdB B w b xs i E) : Ret Try.prog 27 [.pointer (some ⟨b, 0, none⟩)] w fun v w' => v = .int .i64 (endV ⟨up8 xs, i, E⟩) ∧ RdB B w' b xs i E ∧ Fr none1 w w' :=
  (end_ok h.1).imp fun v w' ⟨h1, h2, h3⟩ => ⟨h1, ⟨h2, Nat.le_trans h.2 h3.size⟩, h3⟩
end
section
variable {B : Nat} {w : World} {b : Nat} {xs : List UInt8} {i : Nat} {rest : List Bool}
theorem getB_val (h : RdB B w b xs i 0) {n k : Nat} (hd : (up8 xs).drop i = nb n k ++ rest) (hk : k ≤ 64) : Ret Try.prog 24 [.pointer (some ⟨b, 0, none⟩), .int .i64 (k : Int)] w fun v w' => v = .int .u64 ((n % 2 ^ k : Nat) : Int) ∧ RdB B w' b xs (i + k) 0 ∧ Bel B w w' := by
  obtain ⟨e1, e2, e3⟩ := read_get hd hk (by rw [up8_length]; exact h.1.2.1)
  have := getB h (k : Int)
  rwa [e2, e3] at this
theorem rcountB_val (h : RdB B w b xs i 0) {x : Nat} (hd : (up8 xs).drop i = cb x ++ rest) (hx : x + 1 < 2 ^ 64) : Ret Try.prog 22 [.pointer (some ⟨b, 0, none⟩)] w fun v w' => v = .int .u64 (x : Int) ∧ RdB B w' b xs (i + (cb x).length) 0 ∧ Bel B w w' := by
  obtain ⟨e1, e2, e3⟩ := read_count hd hx (by rw [up8_length]; exact h.1.2.1)
  have := rcountB h
  rwa [e2, e3] at this
end
/-- x[:min(len(x), most)]. -/
theorem upto_n (l most : Nat) : ∃ n : Nat, (if (most : Int) < ((l : Nat) : Int) then (most : Int) else ((l : Nat) : Int)) = (n : Int) ∧ n = min l most := by
  refine ⟨min l most, ?_, rfl⟩
  split <;> omega
theorem mod63 (n : Nat) : Int.tmod (n : Int) 9223372036854775808 = ((n % 2 ^ 63 : Nat) : Int) := by rw [Int.tmod_eq_emod_of_nonneg (by omega)]; omega
theorem cntE_eq {L : List Bool} {x : Nat} (hx : x < 2 ^ 63) (hL : L.length + 127 ≤ 1048576) : cntE L x = 0 ∧ cntL L x = L ++ cb x ∧ (cb x).length ≤ 127 := by
  have hk : lg (x + 1) < 64 := lg_lt (by omega) (by omega)
  have e : cntE L x = 0 := by unfold cntE; rw [if_neg (by omega), if_neg (by omega)]
  exact ⟨e, if_pos e, by rw [cb_length]; omega⟩
theorem bitsLong_ok (n : Nat) (hn : n < 2 ^ 64) (cut : Int) (hc : 0 ≤ cut ∧ cut < 256) (W : World) : Ret Try.prog 7 [.int .u64 (n : Int), .int .u8 cut] W (Done W) := by
  apply S7_calls
  refine (shown_ok W).use ?_
  rintro v w1 ⟨rfl, f1⟩
  refine ⟨_, rfl, by decide, ?_⟩
  refine (newB f1.size).use ?_
  rintro v w2 ⟨b, rfl, h2, f2⟩
  refine ⟨_, rfl, cF rfl ?_⟩
  rw [mod63]
  have hx : n % 2 ^ 63 < 2 ^ 63 := Nat.mod_lt _ (by decide)
  generalize n % 2 ^ 63 = x at hx ⊢
  obtain ⟨e1, e2, e3⟩ := cntE_eq (L := []) hx (by decide)
  refine (countB h2 (n := x) (by omega)).use ?_
  rintro v w3 ⟨rfl, h3, f3⟩
  have g3 := (f1.bel0.trans' f2.bel0 : Bel W.heap.size W w2).trans' f3
  rw [e2, List.nil_append] at h3
  rw [e1]
  refine ⟨_, rfl, cF rfl ?_⟩
  have eu : IntKind.u64.wrap ((x : Int) + 1) = ((x + 1 : Nat) : Int) := by rw [IntWalk.u64_in _ (by omega)]; omega
  refine ⟨fun s w' => w' = w3 ∧ ∃ j : Nat, s.1 = (j : Int) ∧ s.2.1 = (((x + 1) / 2 ^ j : Nat) : Int) ∧ 1 ≤ (x + 1) / 2 ^ j, fun s _ => s.2.1.toNat, ⟨rfl, 0, rfl, by show IntKind.u64.wrap ((x : Int) + 1) = _; rw [eu]; simp, by simp⟩, ?_⟩
  rintro J ⟨k, m, ⟨⟩⟩ w4 ⟨rfl, j, hk, hm, h1⟩
  dsimp only at hk hm ⊢
  subst hk hm
  have hj : j < 64 := by
    have h2 : 2 ^ j ≤ x + 1 := by
      have := (Nat.le_div_iff_mul_le (Nat.two_pow_pos j)).1 h1
      omega
    have h3 : 2 ^ j < 2 ^ 64 := by omega
    exact (Nat.pow_lt_pow_iff_right (by decide)).1 h3
  refine cD (fun hlt => ?_) (fun hlt => ?_)
  · refine ⟨by decide, ?_⟩
    rw [half_nat (x + 1) j (by omega), IntWalk.i64_in ((j : Int) + 1) (by omega)]
    have e : (x + 1) / 2 ^ (j + 1) = (x + 1) / 2 ^ j / 2 := by rw [Nat.pow_succ, Nat.div_div_eq_div_mul]
    exact ⟨⟨rfl, j + 1, rfl, rfl, by rw [e]; omega⟩, by dsimp only; rw [e]; omega⟩
  · have ej : lg (x + 1) = j := lg_eq (by omega)
    have hcb := cb_length x
    rw [ej] at hcb
    refine (wout_ok h3.1).use ?_
    rintro v w5 ⟨A, c, rfl, o5, f5⟩
    have h5 := h3.fr0 f5
    refine ⟨_, _, _, rfl, ?_⟩
    refine (wlen_ok h5.1).use ?_
    rintro v w5 ⟨rfl, rfl⟩
    refine ⟨_, rfl, ?_⟩
    rw [IntWalk.i64_in (2 * (j : Int)) (by omega), IntWalk.i64_in (2 * (j : Int) + 1) (by omega), IntWalk.i64_in (2 * (j : Int) + 8) (by omega), Int.tdiv_eq_ediv_of_nonneg (by omega), IntWalk.i64_in _ (by omega)]
    have hl := pk_length (cb x)
    refine cN (fun h => absurd (by rw [hcb]; omega) h) fun _ => ⟨by decide, ?_⟩
    refine cF (by rw [decide_eq_true]; rfl; omega) ?_
    have hb := o5.le
    obtain ⟨q, hq, hql⟩ : ∃ q : Nat, Int.tmod (IntKind.i64.wrap cut) (((pk (cb x)).length : Nat) : Int) = (q : Int) ∧ q < (pk (cb x)).length := by
      rw [IntWalk.i64_in _ (by omega), Int.tmod_eq_emod_of_nonneg (by omega)]
      have h0 := Int.emod_nonneg cut (b := (((pk (cb x)).length : Nat) : Int)) (by omega)
      have h1 := Int.emod_lt_of_pos cut (b := (((pk (cb x)).length : Nat) : Int)) (by omega)
      exact ⟨(cut % (((pk (cb x)).length : Nat) : Int)).toNat, by omega, by omega⟩
    unfold S7_k6
    rw [hq, Int.toNat_natCast, Nat.sub_zero, slAddr_zero]
    refine ⟨by omega, by omega, by omega, ?_⟩
    have htl : ((pk (cb x)).take q).length = q := by rw [List.length_take]; omega
    have hrd : Rd w5 (from1 w4.heap.size) A (bvs ((pk (cb x)).take q)) := by
      have := o5.rd.take q
      unfold bvs at this ⊢
      rwa [← List.map_take] at this
    have hnew := rnewB (B := W.heap.size) (c := c - 0) hrd (by omega) h5.2
    rw [htl] at hnew
    refine hnew.use ?_
    rintro v w6 ⟨r, rfl, h6, f6⟩
    refine ⟨_, rfl, cF rfl ?_⟩
    have hshort : rcE ⟨up8 ((pk (cb x)).take q), 0, 0⟩ = 10 := by
      refine short_count (x := x) (n := 8 * q) (by omega) (by rw [ej]; omega) ?_
      rw [up8_take, up8_pk, List.take_append_of_le_length (by omega)]
    refine (rcountB h6).use ?_
    unfold rcV rcS
    rw [hshort]
    rintro v w7 ⟨rfl, h7, f7⟩
    refine ⟨_, rfl, cT rfl (cT rfl ?_)⟩
    refine (endB h7).use ?_
    rintro v w8 ⟨rfl, _, f8⟩
    refine ⟨_, rfl, ?_, (g3.trans' (f5.bel0.trans' (f6.bel0.trans' (f7.trans' f8.bel0)))).top⟩
    rfl
theorem bitsFirst_ok (n : Nat) (hn : n < 2 ^ 64) {W : World} {A : Option Addr} {c : Nat} {ys : List UInt8} (hr : Rd W (fun k => k < W.heap.size) A (bvs ys)) (hc : ys.length ≤ c) : Ret Try.prog 8 [.int .u64 (n : Int), .slice A ys.length c] W (Done W) := by
  apply S8_calls
  refine (shown_ok W).use ?_
  rintro v w1 ⟨rfl, f1⟩
  refine ⟨_, rfl, by decide, ?_⟩
  refine (newB f1.size).use ?_
  rintro v w2 ⟨b, rfl, h2, f2⟩
  refine ⟨_, rfl, cF rfl ?_⟩
  rw [mod63]
  have hx : n % 2 ^ 63 < 2 ^ 63 := Nat.mod_lt _ (by decide)
  generalize n % 2 ^ 63 = x at hx ⊢
  obtain ⟨e1, e2, e3⟩ := cntE_eq (L := []) hx (by decide)
  refine (countB h2 (n := x) (by omega)).use ?_
  rintro v w3 ⟨rfl, h3, f3⟩
  have g3 := (f1.bel0.trans' f2.bel0 : Bel W.heap.size W w2).trans' f3
  rw [e2, List.nil_append] at h3
  rw [e1]
  refine ⟨_, rfl, cF rfl ?_⟩
  obtain ⟨m, hm, hm'⟩ := upto_n ys.length 1000
  have hm2 : (if (1000 : Int) < ((ys.length : Nat) : Int) then (1000 : Int) else ((ys.length : Nat) : Int)) = (m : Int) := hm
  unfold S8_k1
  rw [hm2, Int.toNat_natCast, Nat.sub_zero, slAddr_zero]
  have htl : (ys.take m).length = m := by rw [List.length_take]; omega
  have hrd : Rd W (fun k => k < W.heap.size) A (bvs (ys.take m)) := by
    have := hr.take m
    unfold bvs at this ⊢
    rwa [← List.map_take] at this
  have hm1 : m ≤ 1000 := by omega
  generalize ys.take m = xs at htl hrd
  have at1 : ∀ {w' : World} {i : Nat} {x : UInt8}, Bel W.heap.size W w' → xs[i]? = some x → ∃ a, A = some a ∧ w'.cell? (a.add (Int.toNat (i : Int) * 1)) = some (.int .u8 (x.toNat : Int)) := by
    intro w' i x g hx
    obtain ⟨a, ha, _, cx⟩ := (hrd.fr g fun k hk hk1 h => by simp only [from1] at h; omega).at (bvs_get hx)
    exact ⟨a, ha, by rw [Int.toNat_natCast, Nat.mul_one]; exact cx⟩
  refine ⟨by omega, by omega, fun s w' => ∃ i : Nat, s.1 = (i : Int) ∧ i ≤ m ∧ WrB W.heap.size w' b (cb x ++ up8 (xs.take i)) ∧ Bel W.heap.size W w', fun s _ => m - s.1.toNat, ⟨0, rfl, Nat.zero_le _, by simpa [up8] using h3, g3⟩, ?_⟩
  rintro J ⟨i', ⟨⟩⟩ w4 ⟨i, hi, hle, h4, g4⟩
  dsimp only at hi ⊢
  subst hi
  have hul : (up8 (xs.take i)).length = 8 * i := by rw [up8_length, List.length_take]; omega
  refine cD (fun hlt => ?_) (fun hlt => ?_)
  · have hx : xs[i]? = some xs[i] := List.getElem?_eq_getElem (by omega)
    obtain ⟨a, ha, cx⟩ := at1 g4 hx
    have h8 := xs[i].toNat_lt
    refine ⟨a, ha, by omega, by omega, _, cx, ?_⟩
    rw [IntWalk.u64_in _ (by omega)]
    refine (putB h4 (n := xs[i].toNat) (by omega) 8).use ?_
    have e := putE_eq (L := cb x ++ up8 (xs.take i)) (many := 8) (by decide) (by rw [List.length_append, hul]; omega)
    rw [putL_eq e, e]
    rintro v w5 ⟨rfl, h5, g5⟩
    refine ⟨_, rfl, cF rfl ?_⟩
    rw [IntWalk.i64_in ((i : Int) + 1) (by omega)]
    refine ⟨⟨i + 1, rfl, by omega, ?_, g4.trans' g5⟩, by dsimp only; omega⟩
    have et : up8 (xs.take (i + 1)) = up8 (xs.take i) ++ by8 xs[i] := by
      rw [List.take_add_one, hx, up8_append]; simp [up8]
    rw [et, ← List.append_assoc]; exact h5
  · have : m = i := by omega
    subst this
    rw [← htl, List.take_length] at h4
    rw [← htl, List.take_length, htl] at hul
    have hLL : (cb x ++ up8 xs).length ≤ 10000 := by rw [List.length_append, hul]; omega
    refine (wout_ok h4.1).use ?_
    rintro v w5 ⟨A5, c5, rfl, o5, f5⟩
    refine ⟨_, _, _, rfl, ?_⟩
    refine (rnewB (B := W.heap.size) o5.rd (by rw [pk_length]; omega) (Nat.le_trans h4.2 f5.size)).use ?_
    rintro v w6 ⟨r, rfl, h6, f6⟩
    have g6 := g4.trans' (f5.bel0.trans' f6.bel0)
    refine ⟨_, rfl, cF rfl ?_⟩
    obtain ⟨p, hp, hup⟩ : ∃ p, p < 8 ∧ up8 (pk (cb x ++ up8 xs)) = cb x ++ (up8 xs ++ List.replicate p false) :=
      ⟨8 * (((cb x ++ up8 xs).length + 7) / 8) - (cb x ++ up8 xs).length, by omega, by rw [up8_pk, List.append_assoc]⟩
    have hdr : ∀ i, i ≤ m → (up8 (pk (cb x ++ up8 xs))).drop ((cb x).length + 8 * i) = up8 (xs.drop i) ++ List.replicate p false := by
      intro i hi
      rw [hup, ← List.drop_drop, List.drop_append_of_le_length (Nat.le_refl _), List.drop_length, List.nil_append]
      have e : up8 xs = up8 (xs.take i) ++ up8 (xs.drop i) := by rw [← up8_append, List.take_append_drop]
      have hl : (up8 (xs.take i)).length = 8 * i := by rw [up8_length, List.length_take]; omega
      rw [e, List.append_assoc, List.drop_append_of_le_length (by omega), List.drop_of_length_le (by omega), List.nil_append]
    generalize pk (cb x ++ up8 xs) = zs at hup hdr h6
    refine (rcountB_val h6 (x := x) (rest := up8 xs ++ List.replicate p false) hup (by omega)).use ?_
    rintro v w7 ⟨rfl, h7, f7⟩
    rw [Nat.zero_add] at h7
    refine ⟨_, rfl, cF (by simp) ?_⟩
    refine ⟨fun s w' => ∃ i : Nat, s.1 = (i : Int) ∧ i ≤ m ∧ RdB W.heap.size w' r zs ((cb x).length + 8 * i) 0 ∧ Bel W.heap.size W w', fun s _ => m - s.1.toNat, ⟨0, rfl, Nat.zero_le _, h7, g6.trans' f7⟩, ?_⟩
    rintro J ⟨i', ⟨⟩⟩ w8 ⟨i, hi, hle, h8, g8⟩
    dsimp only at hi ⊢
    subst hi
    refine cD (fun hlt => ?_) (fun hlt => ?_)
    · have fd : Fr none1 w8 w8.drew := Fr.drew w8
      have h9 := h8.fr0 fd
      have g9 := g8.trans' fd.bel0
      unfold S8_k8
      generalize w8.drew = w9 at h9 g9 ⊢
      have hx : xs[i]? = some xs[i] := List.getElem?_eq_getElem (by omega)
      obtain ⟨a, ha, cx⟩ := at1 g9 hx
      have h8' := xs[i].toNat_lt
      have eu : IntKind.u64.wrap (xs[i].toNat : Int) = ((xs[i].toNat : Nat) : Int) := IntWalk.u64_in _ (by omega)
      have hg := getB_val h9 (n := xs[i].toNat) (k := 8) (rest := up8 (xs.drop (i + 1)) ++ List.replicate p false) (by
        have e : xs.drop i = xs[i] :: xs.drop (i + 1) := List.drop_eq_getElem_cons (by omega)
        rw [hdr i (by omega), e]
        unfold up8
        rw [List.flatMap_cons, List.append_assoc]
        rfl) (by decide)
      rw [Nat.mod_eq_of_lt (by omega), show (cb x).length + 8 * i + 8 = (cb x).length + 8 * (i + 1) by omega] at hg
      have fin : ∀ w10, RdB W.heap.size w10 r zs ((cb x).length + 8 * (i + 1)) 0 → Bel W.heap.size W w10 → S8_k9 true A m (c - 0) (some ⟨r, 0, none⟩) (m : Int) (i : Int) (!decide (((xs[i].toNat : Nat) : Int) = ((xs[i].toNat : Nat) : Int))) w10 (Done W)
          (fun s' w'' => (∃ i : Nat, s'.1 = (i : Int) ∧ i ≤ m ∧ RdB W.heap.size w'' r zs ((cb x).length + 8 * i) 0 ∧ Bel W.heap.size W w'') ∧ m - s'.1.toNat < m - (i : Int).toNat) := by
        intro w10 h10 g10
        refine cF (by simp) ?_
        rw [IntWalk.i64_in ((i : Int) + 1) (by omega)]
        exact ⟨⟨i + 1, rfl, by omega, h10, g10⟩, by dsimp only; omega⟩
      refine ⟨a, ha, by omega, by omega, ?_, _, cx, ?_⟩
      · refine hg.use ?_
        rintro v w10 ⟨rfl, h10, f10⟩
        obtain ⟨a', ha', cx'⟩ := at1 (g9.trans' f10) hx
        rw [ha] at ha'
        cases ha'
        refine ⟨_, rfl, _, cx', ?_⟩
        rw [eu]
        exact fin w10 h10 (g9.trans' f10)
      · refine hg.use ?_
        rintro v w10 ⟨rfl, h10, f10⟩
        refine ⟨_, rfl, ?_⟩
        rw [eu]
        exact fin w10 h10 (g9.trans' f10)
    · have : m = i := by omega
      subst this
      refine cT rfl ?_
      refine (endB h8).use ?_
      rintro v w9 ⟨rfl, _, f9⟩
      refine ⟨_, rfl, ?_, (g8.trans' f9.bel0).top⟩
      rw [(end_pad (p := p) (by rw [hdr m (Nat.le_refl _), List.drop_of_length_le (by omega)]; rfl) hp (by rw [up8_length]; exact h8.1.2.1)).1]
      rfl
end Go.Proofs
