/- The check sum, without the program: its steps, that it is linear, and that it tells bursts. -/
import Derived.Test.YtmhjjhpgbafjpaaBitN
set_option linter.unusedVariables false
namespace Go.Eng
open Go
abbrev W16 := BitVec 16
def cf (r : W16) : W16 := (r <<< 1) ^^^ (if r.msb then 0x1021#16 else 0#16)
def it : Nat → W16 → W16
  | 0, r => r
  | n + 1, r => it n (cf r)
theorem xor_lin (a b c : W16) : a ^^^ b = (a ^^^ c) ^^^ (b ^^^ c) := by
  apply BitVec.eq_of_getLsbD_eq
  intro i hi
  simp only [BitVec.getLsbD_xor]
  cases a.getLsbD i <;> cases b.getLsbD i <;> cases c.getLsbD i <;> rfl
theorem xor_swap (a b c d : W16) : (a ^^^ b) ^^^ (c ^^^ d) = (a ^^^ c) ^^^ (b ^^^ d) := by
  apply BitVec.eq_of_getLsbD_eq
  intro i hi
  simp only [BitVec.getLsbD_xor]
  cases a.getLsbD i <;> cases b.getLsbD i <;> cases c.getLsbD i <;> cases d.getLsbD i <;> rfl
theorem cf_xor (a b : W16) : cf (a ^^^ b) = cf a ^^^ cf b := by
  unfold cf
  rw [xor_swap, ← BitVec.shiftLeft_xor_distrib, BitVec.msb_xor]
  congr 1
  cases a.msb <;> cases b.msb <;> decide
theorem cf_zero : cf 0#16 = 0#16 := by decide
theorem it_xor : ∀ (n : Nat) (a b : W16), it n (a ^^^ b) = it n a ^^^ it n b
  | 0, _, _ => rfl
  | n + 1, a, b => by simp only [it]; rw [cf_xor, it_xor n]
theorem it_zero : ∀ n : Nat, it n 0#16 = 0#16
  | 0 => rfl
  | n + 1 => by simp only [it]; rw [cf_zero, it_zero n]
theorem it_succ : ∀ (n : Nat) (a : W16), it (n + 1) a = cf (it n a)
  | 0, _ => rfl
  | n + 1, a => by rw [it, it_succ n (cf a)]; rfl
theorem cf_inj {a : W16} (h : cf a = 0#16) : a = 0#16 := by
  have h0 : (cf a).getLsbD 0 = false := by rw [h]; rfl
  have hm : a.msb = false := by
    unfold cf at h0
    cases e : a.msb with
    | false => rfl
    | true => rw [e] at h0; simp at h0
  unfold cf at h
  rw [hm] at h
  simp only [Bool.false_eq_true, if_false, BitVec.xor_zero] at h
  apply BitVec.eq_of_getLsbD_eq
  intro i hi
  by_cases e : i = 15
  · subst e
    rw [BitVec.msb_eq_getLsbD_last] at hm
    simpa using hm
  · have h2 : (a <<< 1).getLsbD (i + 1) = false := by rw [h]; simp
    rw [BitVec.getLsbD_shiftLeft] at h2
    have h3 : i + 1 < 16 := by omega
    simpa [h3] using h2
theorem it_inj : ∀ (n : Nat) {a : W16}, it n a = 0#16 → a = 0#16
  | 0, _, h => h
  | n + 1, a, h => cf_inj (it_inj n h)
/-- What one byte does. -/
def stp (r : W16) (c : UInt8) : W16 := it 8 (r ^^^ (c.toBitVec.setWidth 16 <<< 8))
def crc (r : W16) (xs : List UInt8) : W16 := xs.foldl stp r
def csum (xs : List UInt8) : W16 := crc 0xFFFF#16 xs
theorem crc_append (r : W16) (xs ys : List UInt8) : crc r (xs ++ ys) = crc (crc r xs) ys := by simp [crc]
theorem stp_xor (r s : W16) (c d : UInt8) : stp (r ^^^ s) (c ^^^ d) = stp r c ^^^ stp s d := by
  unfold stp
  rw [← it_xor]
  congr 1
  rw [UInt8.toBitVec_xor, BitVec.setWidth_xor, BitVec.shiftLeft_xor_distrib, xor_swap]
/-- What one byte does, in one go. -/
def stpP (r : W16) (c : UInt8) : W16 :=
  let y : BitVec 8 := (r >>> 8).setWidth 8 ^^^ c.toBitVec
  let x : W16 := (y ^^^ (y >>> 4)).setWidth 16
  (((r <<< 8) ^^^ (x <<< 12)) ^^^ (x <<< 5)) ^^^ x
def tabP (y : BitVec 8) : W16 := let x : W16 := (y ^^^ (y >>> 4)).setWidth 16; ((x <<< 12) ^^^ (x <<< 5)) ^^^ x
theorem tab_all : ∀ n : Fin 256, it 8 ((BitVec.ofNat 8 n.val).setWidth 16 <<< 8) = tabP (BitVec.ofNat 8 n.val) := by decide +kernel
theorem low_all : ∀ n : Fin 256, it 8 ((BitVec.ofNat 8 n.val).setWidth 16) = (BitVec.ofNat 8 n.val).setWidth 16 <<< 8 := by decide +kernel
theorem all8 {p : BitVec 8 → Prop} (h : ∀ n : Fin 256, p (BitVec.ofNat 8 n.val)) (y : BitVec 8) : p y := by
  have := h ⟨y.toNat, y.isLt⟩
  simpa using this
theorem tab_eq (y : BitVec 8) : it 8 (y.setWidth 16 <<< 8) = tabP y := all8 (p := fun y => it 8 (y.setWidth 16 <<< 8) = tabP y) tab_all y
theorem low_eq (y : BitVec 8) : it 8 (y.setWidth 16) = y.setWidth 16 <<< 8 := all8 (p := fun y => it 8 (y.setWidth 16) = y.setWidth 16 <<< 8) low_all y
theorem split16 (r : W16) (c : BitVec 8) : r ^^^ (c.setWidth 16 <<< 8) = (((r >>> 8).setWidth 8 ^^^ c).setWidth 16 <<< 8) ^^^ (r.setWidth 8).setWidth 16 := by
  apply BitVec.eq_of_getLsbD_eq
  intro i hi
  simp only [BitVec.getLsbD_xor, BitVec.getLsbD_shiftLeft, BitVec.getLsbD_setWidth, BitVec.getLsbD_ushiftRight]
  by_cases h : i < 8
  · simp [h, hi]
  · have h1 : i - 8 < 8 := by omega
    have h2 : 8 + (i - 8) = i := by omega
    have h3 : i - 8 < 16 := by omega
    simp [h, hi, h1, h2, h3]
theorem low8 (r : W16) : (r.setWidth 8).setWidth 16 <<< 8 = r <<< 8 := by
  apply BitVec.eq_of_getLsbD_eq
  intro i hi
  simp only [BitVec.getLsbD_shiftLeft, BitVec.getLsbD_setWidth]
  by_cases h : i < 8
  · simp [h]
  · have h1 : i - 8 < 8 := by omega
    have h3 : i - 8 < 16 := by omega
    simp [h, h1, h3]
theorem stpP_eq (r : W16) (c : UInt8) : stpP r c = stp r c := by
  unfold stp
  rw [split16, it_xor, tab_eq, low_eq, low8]
  unfold stpP tabP
  simp only []
  generalize (((r >>> 8).setWidth 8 ^^^ c.toBitVec) ^^^ (((r >>> 8).setWidth 8 ^^^ c.toBitVec) >>> 4)).setWidth 16 = x
  apply BitVec.eq_of_getLsbD_eq
  intro i hi
  simp only [BitVec.getLsbD_xor]
  cases (r <<< 8).getLsbD i <;> cases (x <<< 12).getLsbD i <;> cases (x <<< 5).getLsbD i <;> cases x.getLsbD i <;> rfl
/-! ### Bit by bit -/
def bw1 (b : Bool) : W16 := if b then 0x8000#16 else 0#16
def gb (r : W16) (b : Bool) : W16 := cf (r ^^^ bw1 b)
def bcrc (r : W16) (L : List Bool) : W16 := L.foldl gb r
theorem bcrc_append (r : W16) (L M : List Bool) : bcrc r (L ++ M) = bcrc (bcrc r L) M := by simp [bcrc]
theorem bw1_xor (a b : Bool) : bw1 (a ^^ b) = bw1 a ^^^ bw1 b := by cases a <;> cases b <;> decide
theorem gb_xor (r s : W16) (a b : Bool) : gb (r ^^^ s) (a ^^ b) = gb r a ^^^ gb s b := by
  unfold gb; rw [bw1_xor, xor_swap, cf_xor]
theorem bcrc_xor : ∀ (L M : List Bool) (r s : W16), L.length = M.length → bcrc (r ^^^ s) (List.zipWith (· ^^ ·) L M) = bcrc r L ^^^ bcrc s M
  | [], [], _, _, _ => rfl
  | a :: L, b :: M, r, s, h => by
    simp only [List.zipWith_cons_cons, bcrc, List.foldl_cons]
    rw [gb_xor]
    exact bcrc_xor L M _ _ (by simpa using h)
theorem bcrc_lin : ∀ (L : List Bool) (r : W16), bcrc r L = it L.length r ^^^ bcrc 0#16 L
  | [], r => by simp [bcrc, it]
  | b :: L, r => by
    have e : ∀ s, bcrc s (b :: L) = bcrc (gb s b) L := fun s => rfl
    rw [e, e, bcrc_lin L (gb r b), bcrc_lin L (gb 0#16 b), List.length_cons]
    unfold gb
    rw [cf_xor, it_xor, it, cf_xor, it_xor, cf_zero, it_zero, BitVec.zero_xor, BitVec.xor_assoc]
theorem byte_all : ∀ n : Fin 256, it 8 ((BitVec.ofNat 8 n.val).setWidth 16 <<< 8) = bcrc 0#16 (nb n.val 8) := by decide +kernel
theorem stp_bits (r : W16) (c : UInt8) : stp r c = bcrc r (by8 c) := by
  rw [bcrc_lin, by8_length]
  unfold stp
  rw [it_xor]
  congr 1
  have := byte_all ⟨c.toNat, c.toNat_lt⟩
  simp only at this
  rw [show c.toBitVec = BitVec.ofNat 8 c.toNat by simp [← UInt8.toNat_toBitVec]]
  exact this
theorem crc_bits : ∀ (xs : List UInt8) (r : W16), crc r xs = bcrc r (up8 xs)
  | [], r => rfl
  | x :: xs, r => by
    have e : up8 (x :: xs) = by8 x ++ up8 xs := rfl
    rw [e, bcrc_append, ← stp_bits, ← crc_bits xs]
    rfl
/-! ### Bursts -/
def wrd : Nat → List Bool → W16
  | _, [] => 0#16
  | k, b :: P => (if b then 0x8000#16 >>> k else 0#16) ^^^ wrd (k + 1) P
theorem top_all : ∀ k : Fin 16, it k.val (0x8000#16 >>> k.val) = 0x8000#16 := by decide +kernel
theorem bcrc_wrd : ∀ (P : List Bool) (k : Nat) (s : W16), k + P.length ≤ 16 → bcrc (it k s) P = it (k + P.length) (s ^^^ wrd k P)
  | [], k, s, _ => by simp [bcrc, wrd]
  | b :: P, k, s, h => by
    rw [List.length_cons] at h ⊢
    have e : bcrc (it k s) (b :: P) = bcrc (gb (it k s) b) P := rfl
    have e2 : gb (it k s) b = it (k + 1) (s ^^^ (if b then 0x8000#16 >>> k else 0#16)) := by
      rw [it_succ, it_xor]
      unfold gb bw1
      cases b with
      | false => simp [it_zero]
      | true =>
        have := top_all ⟨k, by omega⟩
        simp only at this
        simp [this]
    rw [e, e2, bcrc_wrd P (k + 1) _ (by omega), wrd, BitVec.xor_assoc, show k + 1 + P.length = k + (P.length + 1) by omega]
theorem one_bit (k m : Nat) (hk : k < 16) : (0x8000#16 >>> k).getLsbD m = decide (k + m = 15) := by
  rw [BitVec.getLsbD_ushiftRight]
  have h : (0x8000#16 : W16) = BitVec.twoPow 16 15 := by decide
  rw [h, BitVec.getLsbD_twoPow]
  by_cases e : k + m = 15
  · simp [e]
  · simp [e]; omega
theorem wrd_low : ∀ (P : List Bool) (k m : Nat), k + P.length ≤ 16 → 15 < k + m → (wrd k P).getLsbD m = false
  | [], _, _, _, _ => by simp [wrd]
  | b :: P, k, m, h, hm => by
    rw [List.length_cons] at h
    rw [wrd, BitVec.getLsbD_xor, wrd_low P (k + 1) m (by omega) (by omega)]
    cases b with
    | false => simp
    | true =>
      simp only [if_true]
      rw [one_bit k m (by omega)]
      simp; omega
theorem wrd_ne : ∀ (P : List Bool) (k : Nat), k + P.length ≤ 16 → true ∈ P → wrd k P ≠ 0#16
  | b :: P, k, h, hm => by
    rw [List.length_cons] at h
    cases b with
    | true =>
      intro e
      have h1 : (wrd k (true :: P)).getLsbD (15 - k) = true := by
        rw [wrd, BitVec.getLsbD_xor, wrd_low P (k + 1) (15 - k) (by omega) (by omega)]
        simp only [if_true]
        rw [one_bit k _ (by omega)]
        simp; omega
      rw [e] at h1
      simp at h1
    | false =>
      have : wrd k (false :: P) = wrd (k + 1) P := by rw [wrd]; simp
      rw [this]
      exact wrd_ne P (k + 1) (by omega) (by simpa using hm)
theorem bcrc_zeros : ∀ (n : Nat) (r : W16), bcrc r (List.replicate n false) = it n r
  | 0, _ => rfl
  | n + 1, r => by
    have e : bcrc r (List.replicate (n + 1) false) = bcrc (gb r false) (List.replicate n false) := rfl
    rw [e, bcrc_zeros n, it]
    congr 1
    unfold gb bw1
    simp
/-- A burst of up to 16 bits is told. -/
theorem burst {p q : Nat} {P : List Bool} (hl : P.length ≤ 16) (h : true ∈ P) : bcrc 0#16 (List.replicate p false ++ P ++ List.replicate q false) ≠ 0#16 := by
  intro e
  rw [bcrc_append, bcrc_append, bcrc_zeros, bcrc_zeros, it_zero] at e
  have e2 := it_inj _ e
  have e3 := bcrc_wrd P 0 0#16 (by omega)
  rw [it, Nat.zero_add, BitVec.zero_xor] at e3
  rw [e3] at e2
  exact wrd_ne P 0 (by omega) h (it_inj _ e2)
theorem wrd_nb (v : Nat) : ∀ (m k : Nat), k + m = 16 → wrd k (nb v m) = BitVec.ofNat 16 (v % 2 ^ m)
  | 0, k, _ => by simp [nb, wrd, Nat.mod_one]
  | m + 1, k, h => by
    rw [nb, wrd, wrd_nb v m (k + 1) (by omega)]
    apply BitVec.eq_of_getLsbD_eq
    intro i hi
    rw [BitVec.getLsbD_xor, BitVec.getLsbD_ofNat, BitVec.getLsbD_ofNat, Nat.testBit_mod_two_pow, Nat.testBit_mod_two_pow]
    have hif : ((if v.testBit m then 0x8000#16 >>> k else 0#16 : W16)).getLsbD i = (v.testBit m && decide (i = m)) := by
      cases v.testBit m with
      | false => simp
      | true =>
        simp only [if_true]
        rw [one_bit k i (by omega)]
        simp; omega
    rw [hif]
    by_cases e : i = m
    · subst e; simp [hi]
    · by_cases e2 : i < m
      · have : i < m + 1 := by omega
        simp [e, e2, this]
      · have : ¬ i < m + 1 := by omega
        simp [e, e2, this]
/-- Whether a sum stands behind what it is of. -/
theorem sum_zero (R : W16) (v : Nat) (hv : v < 2 ^ 16) : bcrc R (nb v 16) = 0#16 ↔ R.toNat = v := by
  have e := bcrc_wrd (nb v 16) 0 R (by rw [nb_length]; omega)
  rw [it, nb_length, wrd_nb v 16 0 (by omega), Nat.mod_eq_of_lt hv] at e
  rw [e]
  constructor
  · intro h
    have h2 := it_inj _ h
    have h3 : R = BitVec.ofNat 16 v := by
      have h4 := congrArg (· ^^^ BitVec.ofNat 16 v) h2
      simpa [BitVec.xor_assoc] using h4
    rw [h3, BitVec.toNat_ofNat, Nat.mod_eq_of_lt hv]
  · intro h
    have : R = BitVec.ofNat 16 v := by rw [← h]; simp
    rw [this, BitVec.xor_self, it_zero]
end Go.Eng
