/- Bits in bytes: one more bit, all bits back, and the machine's operations. -/
import Derived.Test.YtmhjjhpgbafjpaaBitP
import Derived.IntWalk
set_option linter.unusedVariables false
namespace Go.Eng
open Go
theorem wrap_self {k : IntKind} {n : Int} (h : k.min ≤ n ∧ n ≤ k.max) : k.wrap n = n := by
  cases k
  · exact IntWalk.i8_in n (by simpa [IntKind.min, IntKind.max, IntKind.bits, IntKind.signed] using h)
  · exact IntWalk.i16_in n (by simpa [IntKind.min, IntKind.max, IntKind.bits, IntKind.signed] using h)
  · exact IntWalk.i32_in n (by simpa [IntKind.min, IntKind.max, IntKind.bits, IntKind.signed] using h)
  · exact IntWalk.i64_in n (by simpa [IntKind.min, IntKind.max, IntKind.bits, IntKind.signed] using h)
  · exact IntWalk.u8_in n (by simpa [IntKind.min, IntKind.max, IntKind.bits, IntKind.signed] using h)
  · exact IntWalk.u16_in n (by simpa [IntKind.min, IntKind.max, IntKind.bits, IntKind.signed] using h)
  · exact IntWalk.u32_in n (by simpa [IntKind.min, IntKind.max, IntKind.bits, IntKind.signed] using h)
  · exact IntWalk.u64_in n (by simpa [IntKind.min, IntKind.max, IntKind.bits, IntKind.signed] using h)
theorem and1_64 (m : Nat) (h : m < 2 ^ 64) : bitsI .and .u64 (m : Int) 1 = ((m % 2 : Nat) : Int) := by
  have e : (BitVec.ofInt 64 (m : Int) &&& BitVec.ofInt 64 1).toNat = m % 2 := by
    rw [BitVec.toNat_and, BitVec.ofInt_natCast, BitVec.toNat_ofNat, Nat.mod_eq_of_lt h]
    exact Nat.and_one_is_mod m
  show IntKind.u64.wrap ((BitVec.ofInt 64 (m : Int) &&& BitVec.ofInt 64 1).toNat : Int) = _
  rw [e, IntWalk.u64_in _ (by omega)]
theorem or1_64 (m : Nat) (h : m < 2 ^ 63) : bitsI .or .u64 ((2 * m : Nat) : Int) 1 = ((2 * m + 1 : Nat) : Int) := by
  have e : (BitVec.ofInt 64 ((2 * m : Nat) : Int) ||| BitVec.ofInt 64 1).toNat = 2 * m + 1 := by
    rw [BitVec.toNat_or, BitVec.ofInt_natCast, BitVec.toNat_ofNat, Nat.mod_eq_of_lt (by omega)]
    show (2 * m) ||| 1 = _
    have := Nat.two_pow_add_eq_or_of_lt (i := 1) (b := 1) (by decide) m
    simpa using this.symm
  show IntKind.u64.wrap ((BitVec.ofInt 64 ((2 * m : Nat) : Int) ||| BitVec.ofInt 64 1).toNat : Int) = _
  rw [e, IntWalk.u64_in _ (by omega)]
theorem shr_nat (n k b : Nat) : Int.fdiv (n : Int) (2 ^ (min (Int.toNat (k : Int)) b)) = ((n / 2 ^ (min k b) : Nat) : Int) := by
  have h : (2 : Int) ^ min k b = ((2 ^ min k b : Nat) : Int) := by simp
  rw [Int.toNat_natCast, h, Int.ofNat_fdiv]
theorem bit64 (n k : Nat) (hn : n < 2 ^ 64) (hk : k < 64) : decide (bitsI .and .u64 (Int.fdiv (n : Int) (2 ^ (min (Int.toNat (k : Int)) (IntKind.u64.bits)))) 1 = 1) = n.testBit k := by
  rw [shr_nat, Nat.min_eq_left (by simp [IntKind.bits]; omega), and1_64 _ (Nat.lt_of_le_of_lt (Nat.div_le_self _ _) hn), Nat.testBit_eq_decide_div_mod_eq]
  rw [decide_eq_decide]; omega
theorem bit8_all : ∀ n : Fin 256, ∀ j : Fin 8, bitsI .and .u8 (Int.fdiv ((n.val : Nat) : Int) (2 ^ (min (Int.toNat (7 - (j.val : Int))) (IntKind.u8.bits)))) 1 = ((n.val / 2 ^ (7 - j.val) % 2 : Nat) : Int) := by decide +kernel
theorem bit8 (b : UInt8) {j : Nat} (hj : j < 8) : (by8 b)[j]? = some (decide (bitsI .and .u8 (Int.fdiv (b.toNat : Int) (2 ^ (min (Int.toNat (7 - (j : Int))) (IntKind.u8.bits)))) 1 = 1)) := by
  have h := bit8_all ⟨b.toNat, b.toNat_lt⟩ ⟨j, hj⟩
  simp only at h
  rw [h]
  unfold by8
  rw [nb_get _ hj, Nat.testBit_eq_decide_div_mod_eq]
  congr 1
  rw [decide_eq_decide, show 8 - 1 - j = 7 - j by omega]; omega
theorem or8_all : ∀ n : Fin 256, ∀ r : Fin 8, n.val % 2 ^ (8 - r.val) = 0 → bitsI .or .u8 ((n.val : Nat) : Int) (Int.fdiv 128 (2 ^ (min (Int.toNat (r.val : Int)) (IntKind.u8.bits)))) = ((n.val + 2 ^ (7 - r.val) : Nat) : Int) ∧ n.val + 2 ^ (7 - r.val) < 256 := by decide +kernel
theorem or8 {n r : Nat} (hn : n < 256) (hr : r < 8) (hm : n % 2 ^ (8 - r) = 0) : bitsI .or .u8 (n : Int) (Int.fdiv 128 (2 ^ (min (Int.toNat (r : Int)) (IntKind.u8.bits)))) = ((n + 2 ^ (7 - r) : Nat) : Int) ∧ n + 2 ^ (7 - r) < 256 := or8_all ⟨n, hn⟩ ⟨r, hr⟩ hm

/-! ### One more bit -/
theorem vl_pad (l : List Bool) (n : Nat) : vl (l ++ List.replicate n false) = vl l * 2 ^ n := by
  induction n with
  | zero => simp
  | succ n ih =>
    rw [List.replicate_succ', ← List.append_assoc, vl_snoc, ih, Nat.pow_succ]
    simp; rw [Nat.mul_comm 2, Nat.mul_assoc]
theorem chunk_old (L : List Bool) (x : Bool) {i : Nat} (h : i < L.length / 8) : ((L ++ [x]).drop (8 * i)).take 8 = (L.drop (8 * i)).take 8 := by
  rw [List.drop_append_of_le_length (by omega), List.take_append_of_le_length (by rw [List.length_drop]; omega)]
theorem byteAt_old (L : List Bool) (x : Bool) {i : Nat} (h : i < L.length / 8) : byteAt (L ++ [x]) i = byteAt L i := by
  unfold byteAt; rw [chunk_old L x h]
theorem byteAt_out (L : List Bool) {i : Nat} (h : L.length ≤ 8 * i) : byteAt L i = 0 := by
  unfold byteAt; rw [List.drop_eq_nil_of_le h]; rfl
theorem byteAt_last (L : List Bool) : byteAt L (L.length / 8) = vl (L.drop (8 * (L.length / 8))) * 2 ^ (8 - L.length % 8) := by
  unfold byteAt
  have hl : (L.drop (8 * (L.length / 8))).length = L.length % 8 := by rw [List.length_drop]; omega
  rw [List.take_of_length_le (by omega), hl, vl_pad]
theorem byteAt_new (L : List Bool) (x : Bool) : byteAt (L ++ [x]) (L.length / 8) = byteAt L (L.length / 8) + x.toNat * 2 ^ (7 - L.length % 8) := by
  rw [byteAt_last]
  unfold byteAt
  have hl : (L.drop (8 * (L.length / 8))).length = L.length % 8 := by rw [List.length_drop]; omega
  rw [List.drop_append_of_le_length (by omega), List.take_of_length_le (by rw [List.length_append, hl]; simp only [List.length_singleton]; omega), List.length_append, hl, vl_pad, vl_snoc]
  have e1 : 8 - L.length % 8 = (7 - L.length % 8) + 1 := by omega
  have e2 : 8 - (L.length % 8 + [x].length) = 7 - L.length % 8 := by simp only [List.length_singleton]; omega
  rw [e1, e2, Nat.pow_succ, Nat.add_mul]
  congr 1
  rw [Nat.mul_comm 2, Nat.mul_assoc, Nat.mul_comm 2]
theorem byteAt_mod (L : List Bool) : byteAt L (L.length / 8) % 2 ^ (8 - L.length % 8) = 0 := by
  rw [byteAt_last, Nat.mul_mod_left]
def base (L : List Bool) : List UInt8 := (List.range (L.length / 8 + 1)).map fun i => UInt8.ofNat (byteAt L i)
theorem base_length (L : List Bool) : (base L).length = L.length / 8 + 1 := by simp [base]
theorem base_get (L : List Bool) {i : Nat} (h : i ≤ L.length / 8) : (base L)[i]? = some (UInt8.ofNat (byteAt L i)) := by
  have : i < L.length / 8 + 1 := by omega
  simp [base, this]
theorem base_ne (L : List Bool) (h : L.length % 8 ≠ 0) : base L = pk L := by
  unfold base pk
  rw [show (L.length + 7) / 8 = L.length / 8 + 1 by omega]
theorem base_eq (L : List Bool) (h : L.length % 8 = 0) : base L = pk L ++ [0] := by
  unfold base pk
  rw [show (L.length + 7) / 8 = L.length / 8 by omega, List.range_succ, List.map_append, List.map_singleton, byteAt_out L (by omega)]
  rfl
theorem pk_snoc (L : List Bool) (x : Bool) : pk (L ++ [x]) = (base L).set (L.length / 8) (UInt8.ofNat (byteAt L (L.length / 8) + x.toNat * 2 ^ (7 - L.length % 8))) := by
  have hl : (L ++ [x]).length = L.length + 1 := by simp
  apply List.ext_getElem?
  intro i
  by_cases hi : i < L.length / 8 + 1
  · rw [pk_get _ (by rw [hl]; omega), List.getElem?_set, base_length]
    by_cases e : L.length / 8 = i
    · subst e; rw [if_pos rfl, if_pos hi, byteAt_new]
    · rw [if_neg e, base_get _ (by omega), byteAt_old _ _ (by omega)]
  · rw [List.getElem?_eq_none (by rw [pk_length, hl]; omega), List.getElem?_eq_none (by rw [List.length_set, base_length]; omega)]
theorem pk_snoc0 (L : List Bool) : pk (L ++ [false]) = base L := by
  rw [pk_snoc]
  apply List.ext_getElem?
  intro i
  rw [List.getElem?_set, base_length]
  split
  · rename_i h; subst h
    rw [if_pos (by omega), base_get _ (Nat.le_refl _)]; simp
  · rfl
theorem u8_set (xs : List UInt8) (i n : Nat) (h : n < 256) : (bvs xs).set i (.int .u8 (n : Int)) = bvs (xs.set i (UInt8.ofNat n)) := by
  unfold bvs
  rw [List.map_set]
  congr 1
  simp [bv]
  omega
/-! ### All bits back -/
theorem chunk_len (L : List Bool) (i : Nat) : ((L.drop (8 * i)).take 8 ++ List.replicate (8 - ((L.drop (8 * i)).take 8).length) false).length = 8 := by
  simp; omega
theorem by8_byteAt (L : List Bool) (i : Nat) : by8 (UInt8.ofNat (byteAt L i)) = (L.drop (8 * i)).take 8 ++ List.replicate (8 - ((L.drop (8 * i)).take 8).length) false := by
  unfold by8
  have h := byteAt_lt L i
  rw [UInt8.toNat_ofNat_of_lt' (by simpa using h)]
  unfold byteAt
  have h2 := nb_vl ((L.drop (8 * i)).take 8 ++ List.replicate (8 - ((L.drop (8 * i)).take 8).length) false)
  rw [chunk_len] at h2
  exact h2
theorem up8_pk (L : List Bool) : up8 (pk L) = L ++ List.replicate (8 * ((L.length + 7) / 8) - L.length) false := by
  apply List.ext_getElem?
  intro k
  by_cases hk : k < 8 * ((L.length + 7) / 8)
  · have h1 := up8_get (pk_get L (i := k / 8) (by omega)) (j := k % 8) (by omega)
    rw [Nat.div_add_mod] at h1
    rw [h1, by8_byteAt]
    by_cases hkl : k < L.length
    · rw [List.getElem?_append_left (by rw [List.length_take, List.length_drop]; omega), List.getElem?_take, if_pos (by omega), List.getElem?_drop, Nat.div_add_mod, List.getElem?_append_left hkl]
    · rw [List.getElem?_append_right (by rw [List.length_take, List.length_drop]; omega), List.getElem?_append_right (by omega)]
      rw [List.getElem?_replicate, List.getElem?_replicate, if_pos (by rw [List.length_take, List.length_drop]; omega), if_pos (by omega)]
  · rw [List.getElem?_eq_none (by rw [up8_length, pk_length]; omega), List.getElem?_eq_none (by rw [List.length_append, List.length_replicate]; omega)]
theorem pk_up8 (xs : List UInt8) : pk (up8 xs) = xs := by
  apply List.ext_getElem?
  intro i
  by_cases hi : i < xs.length
  · rw [pk_get _ (by rw [up8_length]; omega), List.getElem?_eq_getElem hi]
    congr 1
    have e : ((up8 xs).drop (8 * i)).take 8 = by8 xs[i] := by
      apply List.ext_getElem?
      intro j
      rw [List.getElem?_take]
      split
      · rename_i hj
        rw [List.getElem?_drop, up8_get (List.getElem?_eq_getElem hi) hj]
      · rw [List.getElem?_eq_none (by rw [by8_length]; omega)]
    unfold byteAt
    rw [e, by8_length]
    simp only [Nat.sub_self, List.replicate_zero, List.append_nil]
    unfold by8
    rw [vl_nb, Nat.mod_eq_of_lt (by have := xs[i].toNat_lt; simpa using this)]
    simp
  · rw [List.getElem?_eq_none (by rw [pk_length, up8_length]; omega), List.getElem?_eq_none (by omega)]
end Go.Eng
namespace Go.Eng
/-- `append([]T(nil), xs...)`. -/
theorem dupl {P : Program} {t ty e : TypeId} {sz bytes : Nat} (T : ElT P t e sz bytes) {w : World} {ok2 : Nat → Prop} {A2 : Option Addr} {m c2 : Nat} {news : List Value}
    (hn : news.length = m * sz) (hr : Rd w ok2 A2 news) (h1 : ∀ u ∈ news, u.oneCell' = true) (hb : m * bytes ≤ 140737488355328) (hm : m ≤ maxLen) :
    ∃ A' c' w', (Builtin.append_ #[t, t] ty ⟨[.slice none 0 0, .slice A2 m c2]⟩).run P w = .ok (.slice A' m c') w' ∧ Own w' e sz (from1 w.heap.size) A' m c' news ∧ Fr none1 w w' := by
  obtain ⟨A', c', w', h2, h3, h4, _⟩ := run_append (ty := ty) (c2 := c2) T (Own.nil w e sz none1) hn hr h1 (by rw [Nat.zero_add]; exact hb) (by rw [Nat.zero_add]; exact hm)
  rw [Nat.zero_add] at h2 h3
  refine ⟨A', c', w', h2, ?_, h4.mono fun k _ ⟨a, ha, _⟩ => by cases ha⟩
  rw [List.nil_append] at h3
  exact h3.mono fun k _ h => by
    rcases h with h | h
    · exact h.elim
    · exact h
def bls (l : List Bool) : List Value := l.map Value.bool
theorem bls_length (l : List Bool) : (bls l).length = l.length := by simp [bls]
theorem bls_one (l : List Bool) : ∀ u ∈ bls l, u.oneCell' = true := by
  intro u hu; simp only [bls, List.mem_map] at hu; obtain ⟨b, _, rfl⟩ := hu; rfl
theorem bls_get {l : List Bool} {i : Nat} {b : Bool} (h : l[i]? = some b) : (bls l)[i]? = some (.bool b) := by simp [bls, h]
theorem bls_append (l m : List Bool) : bls (l ++ m) = bls l ++ bls m := by simp [bls]
theorem nb_zero : ∀ k, nb 0 k = List.replicate k false
  | 0 => rfl
  | k + 1 => by rw [nb, nb_zero k, List.replicate_succ]; simp
/-- How many bits a number has. -/
def bl (n : Nat) : Nat := if n = 0 then 0 else n.log2 + 1
theorem bl_shift {x s : Nat} (h : 2 ^ s ≤ x) : bl x = bl (x / 2 ^ s) + s := by
  have hx : x ≠ 0 := by have := Nat.two_pow_pos s; omega
  have hy : x / 2 ^ s ≠ 0 := by have := Nat.div_pos h (Nat.two_pow_pos s); omega
  unfold bl
  rw [if_neg hx, if_neg hy]
  have h1 := (Nat.log2_eq_iff hy).1 rfl
  have h2 : x.log2 = (x / 2 ^ s).log2 + s := by
    rw [Nat.log2_eq_iff hx]
    refine ⟨?_, ?_⟩
    · rw [Nat.pow_add]; exact Nat.le_trans (Nat.mul_le_mul_right _ h1.1) (Nat.div_mul_le_self _ _)
    · rw [show (x / 2 ^ s).log2 + s + 1 = ((x / 2 ^ s).log2 + 1) + s by omega, Nat.pow_add]
      exact (Nat.div_lt_iff_lt_mul (Nat.two_pow_pos s)).1 h1.2
  omega
theorem lg_lt {n : Nat} {k : Nat} (h : n < 2 ^ k) (h0 : n ≠ 0) : lg n < k := (Nat.log2_lt h0).2 h
theorem lg_eq {m k : Nat} (h : m / 2 ^ k = 1) : lg m = k := by
  have h0 : m ≠ 0 := by intro e; subst e; simp at h
  rw [Nat.log2_eq_iff h0]
  have hp := Nat.two_pow_pos k
  have h1 := Nat.div_add_mod m (2 ^ k)
  have h2 := Nat.mod_lt m hp
  rw [h] at h1
  rw [Nat.pow_succ]
  omega
end Go.Eng
