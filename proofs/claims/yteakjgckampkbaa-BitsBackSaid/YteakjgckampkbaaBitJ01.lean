/- The law of a full writer. -/
import Derived.Test.YteakjgckampkbaaBitI01
set_option linter.unusedVariables false
namespace Go.Proofs
open Go Go.Eng
/-- A writer of the call's own. -/
def WrB (B : Nat) (w : World) (b : Nat) (L : List Bool) : Prop := WrAt w (from1 B) b L ∧ B ≤ w.heap.size
theorem WrB.fr0 {B : Nat} {w w' : World} {b : Nat} {L : List Bool} (h : WrB B w b L) (f : Fr none1 w w') : WrB B w' b L := ⟨h.1.fr f fun _ _ _ h => h, Nat.le_trans h.2 f.size⟩
theorem okp_from {B : Nat} {w : World} (h : B ≤ w.heap.size) {k : Nat} (hk : okp (from1 B) w k) : from1 B k := by
  rcases hk with hk | hk
  · exact hk
  · exact Nat.le_trans h hk
theorem putB {B : Nat} {w : World} {b : Nat} {L : List Bool} (h : WrB B w b L) {n : Nat} (hn : n < 2 ^ 64) (many : Int) :
    Ret Try.prog 15 [.pointer (some ⟨b, 0, none⟩), .int .u64 (n : Int), .int .i64 many] w fun v w' => v = .int .i64 (putE L many) ∧ WrB B w' b (putL L n many) ∧ Bel B w w' :=
  (put_ok h.1 hn many).imp fun v w' ⟨h1, h2, h3⟩ => ⟨h1, ⟨h2.mono fun k _ hk => okp_from h.2 hk, Nat.le_trans h.2 h3.size⟩, h3⟩
theorem countB {B : Nat} {w : World} {b : Nat} {L : List Bool} (h : WrB B w b L) {n : Nat} (hn : n < 2 ^ 64) :
    Ret Try.prog 13 [.pointer (some ⟨b, 0, none⟩), .int .u64 (n : Int)] w fun v w' => v = .int .i64 (cntE L n) ∧ WrB B w' b (cntL L n) ∧ Bel B w w' :=
  (count_ok h.1 hn).imp fun v w' ⟨h1, h2, h3⟩ => ⟨h1, ⟨h2.mono fun k _ hk => okp_from h.2 hk, Nat.le_trans h.2 h3.size⟩, h3⟩
theorem newB {B : Nat} {w : World} (hB : B ≤ w.heap.size) : Ret Try.prog 11 [] w fun v w' => ∃ b, v = .pointer (some ⟨b, 0, none⟩) ∧ WrB B w' b [] ∧ Fr none1 w w' :=
  (wnew_ok w).imp fun v w' ⟨h1, h2, h3⟩ => ⟨_, h1, ⟨h2.mono fun k _ hk => Nat.le_trans hB hk, Nat.le_trans hB h3.size⟩, h3⟩
theorem putL_eq {L : List Bool} {n : Nat} {many : Int} (h : putE L many = 0) : putL L n many = L ++ nb n many.toNat := if_pos h
theorem bitsFull_ok (n : Nat) (hn : n < 2 ^ 64) (m : Int) (hm : 0 ≤ m ∧ m < 256) (W : World) : Ret Try.prog 4 [.int .u64 (n : Int), .int .u8 m] W (Done W) := by
  apply S4_calls
  refine (shown_ok W).use ?_
  rintro v w1 ⟨rfl, f1⟩
  refine ⟨_, rfl, ?_⟩
  refine (newB f1.size).use ?_
  rintro v w2 ⟨b, rfl, h2, f2⟩
  refine ⟨_, rfl, cF rfl ?_⟩
  obtain ⟨left, hl, hl'⟩ : ∃ left : Nat, IntKind.i64.wrap (Int.tmod m 201) = (left : Int) ∧ left < 201 := by
    rw [Int.tmod_eq_emod_of_nonneg (by omega), IntWalk.i64_in _ (by omega)]
    exact ⟨(m % 201).toNat, by omega, by omega⟩
  unfold S4_k0
  rw [hl, IntWalk.i64_in (1048576 - (left : Int)) (by omega)]
  have e1 : IntKind.i64.wrap (Int.tdiv (1048576 - (left : Int)) 64) = (((1048576 - left) / 64 : Nat) : Int) := by
    rw [Int.tdiv_eq_ediv_of_nonneg (by omega), IntWalk.i64_in _ (by omega)]; omega
  rw [e1]
  have g2 : Bel W.heap.size W w2 := f1.bel0.trans' f2.bel0
  refine ⟨by decide, by decide, fun s w' => ∃ (i : Nat) (L : List Bool), s.1 = (i : Int) ∧ i ≤ (1048576 - left) / 64 ∧ L.length = 64 * i ∧ WrB W.heap.size w' b L ∧ Bel W.heap.size W w', fun s _ => (1048576 - left) / 64 - s.1.toNat, ⟨0, [], rfl, Nat.zero_le _, rfl, h2, g2⟩, ?_⟩
  rintro J ⟨i', ⟨⟩⟩ w3 ⟨i, L, hi, hle, hL, h3, g3⟩
  dsimp only at hi ⊢
  subst hi
  refine cD (fun hlt => ?_) (fun hlt => ?_)
  · refine (putB h3 hn 64).use ?_
    rintro v w4 ⟨rfl, h4, g4⟩
    have e := putE_eq (L := L) (many := 64) (by decide) (by omega)
    rw [putL_eq e] at h4
    refine ⟨_, rfl, cN (fun h => absurd e h) fun _ => ?_⟩
    rw [IntWalk.i64_in ((i : Int) + 1) (by omega)]
    exact ⟨⟨i + 1, _, rfl, by omega, by rw [List.length_append, nb_length]; show L.length + 64 = _; omega, h4, g3.trans' g4⟩, by dsimp only; omega⟩
  · have : i = (1048576 - left) / 64 := by omega
    have e2 : Int.tmod (1048576 - (left : Int)) 64 = (((1048576 - left) % 64 : Nat) : Int) := by rw [Int.tmod_eq_emod_of_nonneg (by omega)]; omega
    unfold S4_k3
    rw [IntWalk.i64_in (1048576 - (left : Int)) (by omega), e2]
    refine ⟨by decide, ?_⟩
    refine (putB h3 hn (((1048576 - left) % 64 : Nat) : Int)).use ?_
    rintro v w4 ⟨rfl, h4, g4⟩
    have e := putE_eq (L := L) (many := (((1048576 - left) % 64 : Nat) : Int)) (by omega) (by omega)
    rw [putL_eq e] at h4
    have hL4 : (L ++ nb n (((1048576 - left) % 64 : Nat) : Int).toNat).length = 1048576 - left := by rw [List.length_append, nb_length]; omega
    generalize L ++ nb n (((1048576 - left) % 64 : Nat) : Int).toNat = L4 at h4 hL4
    refine ⟨_, rfl, cN (fun h => absurd e h) fun _ => ?_⟩
    refine (wlen_ok h4.1).use ?_
    rintro v w4 ⟨rfl, rfl⟩
    refine ⟨_, rfl, cN (fun h => absurd (by rw [hL4]; omega) h) fun _ => ?_⟩
    unfold S4_k5
    rw [IntWalk.i64_in ((left : Int) + 1) (by omega)]
    have g34 := g3.trans' g4
    by_cases hl64 : 64 ≤ left
    · rw [if_pos (by omega)]
      refine (putB h4 hn 64).use ?_
      rintro v w5 ⟨rfl, h5, g5⟩
      rw [putE_eq (by decide) (by omega)]
      refine ⟨_, rfl, cF (by simp; omega) (cT rfl (cT rfl ⟨rfl, (g34.trans' g5).top⟩))⟩
    · rw [if_neg (by omega)]
      refine (putB h4 hn ((left : Int) + 1)).use ?_
      rintro v w5 ⟨rfl, h5, g5⟩
      have e4 : putE L4 ((left : Int) + 1) = 4 := by unfold putE; rw [if_neg (by omega), if_pos (by omega)]
      have e5 : putL L4 n ((left : Int) + 1) = L4 := by unfold putL; rw [if_neg (by rw [e4]; decide)]
      rw [e5] at h5
      rw [e4]
      refine ⟨_, rfl, cF (by simp; omega) (cT rfl (cF rfl (cT rfl ?_)))⟩
      rw [IntWalk.i64_in (1048576 - (left : Int)) (by omega)]
      refine (wlen_ok h5.1).use ?_
      rintro v w5 ⟨rfl, rfl⟩
      refine ⟨_, rfl, cT (by rw [decide_eq_true]; omega) ?_⟩
      refine (wout_ok h5.1).use ?_
      rintro v w6 ⟨A, c, rfl, _, f6⟩
      refine ⟨_, _, _, rfl, by decide, ?_, ((g34.trans' g5).trans' f6.bel0).top⟩
      rw [pk_length, IntWalk.i64_in (1048576 - (left : Int) + 7) (by omega), Int.tdiv_eq_ediv_of_nonneg (by omega), IntWalk.i64_in _ (by omega), decide_eq_true]
      omega
end Go.Proofs
