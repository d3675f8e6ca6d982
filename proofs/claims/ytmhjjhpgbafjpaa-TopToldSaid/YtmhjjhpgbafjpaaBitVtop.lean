/- Writers and readers of a call's own; what was laid is read again. -/
import Derived.Test.YtmhjjhpgbafjpaaBitHtop
import Derived.Test.YtmhjjhpgbafjpaaOpn
set_option linter.unusedVariables false
namespace Go.Proofs
open Go Go.Eng
def Done (W : World) (v : Value) (w : World) : Prop := v = .bool true ∧ Fr none1 W w
/-- A writer of the call's own. -/
def WrB (B : Nat) (w : World) (b : Nat) (L : List Bool) : Prop := WrAt w (from1 B) b L ∧ B ≤ w.heap.size
theorem WrB.fr0 {B : Nat} {w w' : World} {b : Nat} {L : List Bool} (h : WrB B w b L) (f : Fr none1 w w') : WrB B w' b L := ⟨h.1.fr f fun _ _ _ h => h, Nat.le_trans h.2 f.size⟩
theorem okp_from {B : Nat} {w : World} (h : B ≤ w.heap.size) {k : Nat} (hk : okp (from1 B) w k) : from1 B k := by
  rcases hk with hk | hk
  · exact hk
  · exact Nat.le_trans h hk
theorem putB {B : Nat} {w : World} {b : Nat} {L : List Bool} (h : WrB B w b L) {n : Nat} (hn : n < 2 ^ 64) (many : Int) :
    Ret Try.prog 61 [.pointer (some ⟨b, 0, none⟩), .int .u64 (n : Int), .int .i64 many] w fun v w' => v = .int .i64 (putE L many) ∧ WrB B w' b (putL L n many) ∧ Bel B w w' :=
  (put_ok h.1 hn many).imp fun v w' ⟨h1, h2, h3⟩ => ⟨h1, ⟨h2.mono fun k _ hk => okp_from h.2 hk, Nat.le_trans h.2 h3.size⟩, h3⟩
theorem countB {B : Nat} {w : World} {b : Nat} {L : List Bool} (h : WrB B w b L) {n : Nat} (hn : n < 2 ^ 64) :
    Ret Try.prog 45 [.pointer (some ⟨b, 0, none⟩), .int .u64 (n : Int)] w fun v w' => v = .int .i64 (cntE L n) ∧ WrB B w' b (cntL L n) ∧ Bel B w w' :=
  (count_ok h.1 hn).imp fun v w' ⟨h1, h2, h3⟩ => ⟨h1, ⟨h2.mono fun k _ hk => okp_from h.2 hk, Nat.le_trans h.2 h3.size⟩, h3⟩
theorem newB {B : Nat} {w : World} (hB : B ≤ w.heap.size) : Ret Try.prog 43 [] w fun v w' => ∃ b, v = .pointer (some ⟨b, 0, none⟩) ∧ WrB B w' b [] ∧ Fr none1 w w' :=
  (wnew_ok w).imp fun v w' ⟨h1, h2, h3⟩ => ⟨_, h1, ⟨h2.mono fun k _ hk => Nat.le_trans hB hk, Nat.le_trans hB h3.size⟩, h3⟩
theorem putL_eq {L : List Bool} {n : Nat} {many : Int} (h : putE L many = 0) : putL L n many = L ++ nb n many.toNat := if_pos h
theorem zs_app (k : Nat) (m : List Bool) : zs (List.replicate k false ++ true :: m) = k := by
  refine zs_eq (fun j hj => ?_) (.inr ?_)
  · rw [List.getElem?_append_left (by simpa using hj), List.getElem?_replicate, if_pos hj]
  · rw [List.getElem?_append_right (by simp)]; simp
theorem lg_div {m : Nat} (h : m ≠ 0) : m / 2 ^ lg m = 1 := by
  have h1 := (Nat.log2_eq_iff h).1 rfl
  have hp : 0 < 2 ^ m.log2 := Nat.two_pow_pos _
  rw [Nat.pow_succ] at h1
  show m / 2 ^ m.log2 = 1
  rw [Nat.div_eq_iff hp]
  omega
theorem cb_form (n : Nat) : cb n = List.replicate (lg (n + 1)) false ++ true :: nb (n + 1) (lg (n + 1)) := by
  unfold cb
  rw [nb, Nat.testBit_eq_decide_div_mod_eq, lg_div (by omega)]
  rfl
section
variable {L rest : List Bool} {i : Nat}
theorem read_count {x : Nat} (h : L.drop i = cb x ++ rest) (hx : x + 1 < 2 ^ 64) (hi : i ≤ L.length) : rcE ⟨L, i, 0⟩ = 0 ∧ rcV ⟨L, i, 0⟩ = x ∧ rcS ⟨L, i, 0⟩ = ⟨L, i + (cb x).length, 0⟩ := by
  have hk : lg (x + 1) < 64 := lg_lt hx (by omega)
  have hz : zs (L.drop i) = lg (x + 1) := by
    rw [h, cb_form, List.append_assoc, List.cons_append]; exact zs_app _ _
  have hlen : L.length - i = (cb x).length + rest.length := by
    have := congrArg List.length h
    rwa [List.length_drop, List.length_append] at this
  rw [cb_length] at hlen
  have hleft : Rs.left ⟨L, i, 0⟩ = (L.length : Int) - (i : Int) := rfl
  have e : rcE ⟨L, i, 0⟩ = 0 := by
    unfold rcE
    simp only [hz]
    rw [if_neg (by simp), if_neg (by omega), if_neg (by omega)]
  refine ⟨e, ?_, ?_⟩
  · unfold rcV
    rw [if_pos e]
    simp only [hz]
    have e2 : L.drop (i + lg (x + 1)) = nb (x + 1) (lg (x + 1) + 1) ++ rest := by
      rw [← List.drop_drop, h]
      unfold cb
      rw [List.append_assoc, List.drop_append_of_le_length (by simp), List.drop_of_length_le (by simp), List.nil_append]
    rw [e2, List.take_append_of_le_length (by rw [nb_length]; exact Nat.le_refl _), List.take_of_length_le (by rw [nb_length]; exact Nat.le_refl _), vl_nb, Nat.mod_eq_of_lt]
    · omega
    · exact ((Nat.log2_eq_iff (by omega)).1 rfl).2
  · unfold rcS
    rw [if_pos e]
    simp only [hz, cb_length]
theorem read_get {n k : Nat} (h : L.drop i = nb n k ++ rest) (hk : k ≤ 64) (hi : i ≤ L.length) : getE ⟨L, i, 0⟩ (k : Int) = 0 ∧ getV ⟨L, i, 0⟩ (k : Int) = n % 2 ^ k ∧ getS ⟨L, i, 0⟩ (k : Int) = ⟨L, i + k, 0⟩ := by
  have hlen : L.length - i = k + rest.length := by
    have := congrArg List.length h
    rwa [List.length_drop, List.length_append, nb_length] at this
  have hleft : Rs.left ⟨L, i, 0⟩ = (L.length : Int) - (i : Int) := rfl
  have e : getE ⟨L, i, 0⟩ (k : Int) = 0 := by
    unfold getE
    rw [if_neg (by simp), if_neg (by omega), if_neg (by omega)]
  refine ⟨e, ?_, ?_⟩
  · unfold getV
    rw [if_pos e, Int.toNat_natCast]
    simp only [h]
    rw [List.take_append_of_le_length (by rw [nb_length]; exact Nat.le_refl _), List.take_of_length_le (by rw [nb_length]; exact Nat.le_refl _), vl_nb]
  · unfold getS
    rw [if_pos e, Int.toNat_natCast]
theorem end_pad {p : Nat} (h : L.drop i = List.replicate p false) (hp : p < 8) (hi : i ≤ L.length) : endV ⟨L, i, 0⟩ = 0 ∧ Rs.left ⟨L, i, 0⟩ = (p : Int) := by
  have hlen : L.length - i = p := by
    have := congrArg List.length h
    rwa [List.length_drop, List.length_replicate] at this
  have hleft : Rs.left ⟨L, i, 0⟩ = (L.length : Int) - (i : Int) := rfl
  refine ⟨?_, by omega⟩
  unfold endV
  rw [if_neg (by simp), if_neg (by omega)]
  simp only [h]
  rw [if_neg]
  intro h
  rw [List.any_eq_true] at h
  obtain ⟨x, hx, hx'⟩ := h
  rw [List.mem_replicate] at hx
  rw [hx.2] at hx'; cases hx'
end
theorem up8_take (xs : List UInt8) (n : Nat) : up8 (xs.take n) = (up8 xs).take (8 * n) := by
  by_cases h : n ≤ xs.length
  · have e : up8 xs = up8 (xs.take n) ++ up8 (xs.drop n) := by rw [← up8_append, List.take_append_drop]
    have hl : (up8 (xs.take n)).length = 8 * n := by rw [up8_length, List.length_take, Nat.min_eq_left h]
    rw [e, List.take_append_of_le_length (by omega), List.take_of_length_le (l := up8 (xs.take n)) (by omega)]
  · rw [List.take_of_length_le (by omega), List.take_of_length_le (by rw [up8_length]; omega)]
/-- A count that is cut off. -/
theorem short_count {x n : Nat} {L : List Bool} (hx : x + 1 ≤ 2 ^ 63) (hn : n ≤ 2 * lg (x + 1)) (h : L = (cb x).take n) : rcE ⟨L, 0, 0⟩ = 10 := by
  have hk : lg (x + 1) < 64 := lg_lt (by omega) (by omega)
  have hlen : L.length = n := by rw [h, List.length_take, cb_length]; omega
  have hz : zs L = min (lg (x + 1)) n := by
    rw [h, cb_form]
    refine zs_eq (fun j hj => ?_) ?_
    · rw [List.getElem?_take, if_pos (by omega), List.getElem?_append_left (by simp; omega), List.getElem?_replicate, if_pos (by omega)]
    · by_cases hkn : lg (x + 1) < n
      · right
        rw [Nat.min_eq_left (by omega), List.getElem?_take, if_pos hkn, List.getElem?_append_right (by simp)]; simp
      · left
        rw [Nat.min_eq_right (by omega), List.length_take, ← cb_form, cb_length]; omega
  unfold rcE Rs.left
  simp only [List.drop_zero, hz]
  rw [if_neg (by simp), if_neg (by omega), if_pos (by omega)]
/-- A reader of the call's own. -/
def RdB (B : Nat) (w : World) (b : Nat) (xs : List UInt8) (i : Nat) (E : Int) : Prop := RdrAt w (from1 B) b xs i E ∧ B ≤ w.heap.size
section
variable {B : Nat} {w : World} {b : Nat} {xs : List UInt8} {i : Nat} {E : Int}
theorem RdB.fr0 {w' : World} (h : RdB B w b xs i E) (f : Fr none1 w w') : RdB B w' b xs i E := ⟨h.1.fr f fun _ _ _ h => h, Nat.le_trans h.2 f.size⟩
theorem rnewB {A : Option Addr} {c : Nat} {ok : Nat → Prop} (h : Rd w ok A (bvs xs)) (hm : xs.length ≤ 1000000) (hB : B ≤ w.heap.size) :
    Ret Try.prog 50 [.slice A xs.length c] w fun v w' => ∃ b, v = .pointer (some ⟨b, 0, none⟩) ∧ RdB B w' b xs 0 0 ∧ Fr none1 w w' :=
  (rnew_ok h hm).imp fun v w' ⟨b, h1, h2, h3⟩ => ⟨b, h1, ⟨h2.mono fun k _ hk => Nat.le_trans hB hk.1, Nat.le_trans hB h3.size⟩, h3⟩
theorem RdB.bel (h : RdB B w b xs i E) {w' : World} (f : Fr (fun k => k = b) w w') : Bel B w w' := f.bel fun k e => by subst e; exact h.1.1
theorem leftB (h : RdB B w b xs i E) : Ret Try.prog 56 [.pointer (some ⟨b, 0, none⟩)] w fun v w' => v = .int .i64 (8 * (xs.length : Int) - (i : Int)) ∧ RdB B w' b xs i E ∧ Fr none1 w w' :=
  (left_ok h.1).imp fun v w' ⟨h1, h2, h3⟩ => ⟨h1, ⟨h2, Nat.le_trans h.2 h3.size⟩, h3⟩
theorem getB (h : RdB B w b xs i E) (many : Int) : Ret Try.prog 52 [.pointer (some ⟨b, 0, none⟩), .int .i64 many] w fun v w' => v = .int .u64 (getV ⟨up8 xs, i, E⟩ many : Int) ∧ RdB B w' b xs (getS ⟨up8 xs, i, E⟩ many).i (getS ⟨up8 xs, i, E⟩ many).E ∧ Bel B w w' :=
  (get_ok h.1 many).imp fun v w' ⟨h1, h2, h3⟩ => ⟨h1, ⟨h2, Nat.le_trans h.2 h3.size⟩, h.bel h3⟩
theorem rcountB (h : RdB B w b xs i E) : Ret Try.prog 53 [.pointer (some ⟨b, 0, none⟩)] w fun v w' => v = .int .u64 (rcV ⟨up8 xs, i, E⟩ : Int) ∧ RdB B w' b xs (rcS ⟨up8 xs, i, E⟩).i (rcS ⟨up8 xs, i, E⟩).E ∧ Bel B w w' :=
  (rcount_ok h.1).imp fun v w' ⟨h1, h2, h3⟩ => ⟨h1, ⟨h2, Nat.le_trans h.2 h3.size⟩, h.bel h3⟩
theorem endB (h : RdB B w b xs i E) : Ret Try.prog 54 [.pointer (some ⟨b, 0, none⟩)] w fun v w' => v = .int .i64 (endV ⟨up8 xs, i, E⟩) ∧ RdB B w' b xs i E ∧ Fr none1 w w' :=
  (end_ok h.1).imp fun v w' ⟨h1, h2, h3⟩ => ⟨h1, ⟨h2, Nat.le_trans h.2 h3.size⟩, h3⟩
end
section
variable {B : Nat} {w : World} {b : Nat} {xs : List UInt8} {i : Nat} {rest : List Bool}
theorem getB_val (h : RdB B w b xs i 0) {n k : Nat} (hd : (up8 xs).drop i = nb n k ++ rest) (hk : k ≤ 64) : Ret Try.prog 52 [.pointer (some ⟨b, 0, none⟩), .int .i64 (k : Int)] w fun v w' => v = .int .u64 ((n % 2 ^ k : Nat) : Int) ∧ RdB B w' b xs (i + k) 0 ∧ Bel B w w' := by
  obtain ⟨e1, e2, e3⟩ := read_get hd hk (by rw [up8_length]; exact h.1.2.1)
  have := getB h (k : Int)
  rwa [e2, e3] at this
theorem rcountB_val (h : RdB B w b xs i 0) {x : Nat} (hd : (up8 xs).drop i = cb x ++ rest) (hx : x + 1 < 2 ^ 64) : Ret Try.prog 53 [.pointer (some ⟨b, 0, none⟩)] w fun v w' => v = .int .u64 (x : Int) ∧ RdB B w' b xs (i + (cb x).length) 0 ∧ Bel B w w' := by
  obtain ⟨e1, e2, e3⟩ := read_count hd hx (by rw [up8_length]; exact h.1.2.1)
  have := rcountB h
  rwa [e2, e3] at this
end
/-- x[:min(len(x), most)]. -/
theorem upto_n (l most : Nat) : ∃ n : Nat, (if (most : Int) < ((l : Nat) : Int) then (most : Int) else ((l : Nat) : Int)) = (n : Int) ∧ n = min l most := by
  refine ⟨min l most, ?_, rfl⟩
  split <;> omega
theorem mod63 (n : Nat) : Int.tmod (n : Int) 9223372036854775808 = ((n % 2 ^ 63 : Nat) : Int) := by rw [Int.tmod_eq_emod_of_nonneg (by omega)]; omega
theorem cntE_eq {L : List Bool} {x : Nat} (hx : x < 2 ^ 63) (hL : L.length + 127 ≤ 1048576) : cntE L x = 0 ∧ cntL L x = L ++ cb x ∧ (cb x).length ≤ 127 := by
  have hk : lg (x + 1) < 64 := lg_lt (by omega) (by omega)
  have e : cntE L x = 0 := by unfold cntE; rw [if_neg (by omega), if_neg (by omega)]
  exact ⟨e, if_pos e, by rw [cb_length]; omega⟩
end Go.Proofs
