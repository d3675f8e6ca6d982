/- The writer's Put, Count, Len and Out; the bits of the reference. -/
import Derived.Test.YtmhjjhpgbafjpaaBitCtop
set_option linter.unusedVariables false
namespace Go.Proofs
open Go Go.Eng
theorem okp_okp {ok : Nat → Prop} {w w1 : World} (h : w.heap.size ≤ w1.heap.size) {k : Nat} (hk : okp (okp ok w) w1 k) : okp ok w k := by
  rcases hk with hk | hk
  · exact hk
  · exact .inr (Nat.le_trans h hk)
def putE (L : List Bool) (many : Int) : Int := if many < 0 ∨ 64 < many then 1 else if 1048576 - (L.length : Int) < many then 4 else 0
def putL (L : List Bool) (n : Nat) (many : Int) : List Bool := if putE L many = 0 then L ++ nb n many.toNat else L
theorem WrAt.keep {w : World} {ok : Nat → Prop} {b : Nat} {L : List Bool} (h : WrAt w ok b L) : WrAt w (okp ok w) b L := h.mono fun _ _ h => .inl h
theorem put_ok {w : World} {ok : Nat → Prop} {b : Nat} {L : List Bool} (h : WrAt w ok b L) {n : Nat} (hn : n < 2 ^ 64) (many : Int) :
    Ret Try.prog 61 [.pointer (some ⟨b, 0, none⟩), .int .u64 (n : Int), .int .i64 many] w fun v w' => v = .int .i64 (putE L many) ∧ WrAt w' (okp ok w) b (putL L n many) ∧ Fr ok w w' := by
  have h' := h
  obtain ⟨_, hl, A, c, hb, _⟩ := h'
  have c1 : w.cell? ((⟨b, 0, none⟩ : Addr).add 1) = some (.int .i64 (L.length : Int)) := by rw [add_g]; exact (hb.cell 1).trans rfl
  apply S61_calls
  have bad : (many < 0 ∨ 64 < many) → putE L many = 1 := fun h => by unfold putE; rw [if_pos h]
  have bad2 : putE L many ≠ 0 → WrAt w (okp ok w) b (putL L n many) := fun h0 => by unfold putL; rw [if_neg h0]; exact h.keep
  have r1 : (many < 0 ∨ 64 < many) → Value.int .i64 1 = .int .i64 (putE L many) ∧ WrAt w (okp ok w) b (putL L n many) ∧ Fr ok w w := fun h1 => by
    rw [bad h1]; exact ⟨rfl, bad2 (by rw [bad h1]; decide), Fr.refl _ _⟩
  refine cF rfl (cD (fun h0 => cT rfl (r1 (.inl h0))) (fun h0 => cD (fun h1 => r1 (.inr h1)) (fun h1 => ?_)))
  refine ⟨_, rfl, _, c1, ?_⟩
  rw [IntWalk.i64_in (1048576 - (L.length : Int)) (by omega)]
  refine cD (fun h2 => ?_) (fun h2 => ?_)
  · have e : putE L many = 4 := by unfold putE; rw [if_neg (by omega), if_pos h2]
    rw [e]; exact ⟨rfl, bad2 (by rw [e]; decide), Fr.refl _ _⟩
  · have e : putE L many = 0 := by unfold putE; rw [if_neg (by omega), if_neg h2]
    have e2 : putL L n many = L ++ nb n many.toNat := by unfold putL; rw [if_pos e]
    rw [e, e2]
    refine ⟨fun s w' => ∃ (j : Nat) (L' : List Bool), s.1 = (j : Int) - 1 ∧ j ≤ many.toNat ∧ L' ++ nb n j = L ++ nb n many.toNat ∧ WrAt w' (okp ok w) b L' ∧ Fr ok w w', fun s _ => (s.1 + 1).toNat, ⟨many.toNat, L, ?_, Nat.le_refl _, rfl, h.keep, Fr.refl _ _⟩, ?_⟩
    · show IntKind.i64.wrap (many - 1) = _
      rw [IntWalk.i64_in _ (by omega)]; omega
    rintro J ⟨k, ⟨⟩⟩ w1 ⟨j, L', hk, hj, hL, h1', f1⟩
    dsimp only at hk ⊢
    subst hk
    refine cD (fun hlt => ?_) (fun hlt => ?_)
    · obtain ⟨j, rfl⟩ : ∃ j', j = j' + 1 := ⟨j - 1, by omega⟩
      have ej : ((j + 1 : Nat) : Int) - 1 = (j : Int) := by omega
      rw [ej] at hlt ⊢
      refine ⟨hlt, ?_⟩
      rw [bit64 n j hn (by omega)]
      have hlen : L'.length + (j + 1) = L.length + many.toNat := by
        have := congrArg List.length hL
        simpa [nb_length] using this
      refine (bit_ok h1' (by omega) (n.testBit j)).use ?_
      rintro v w2 ⟨rfl, h2', f2⟩
      refine ⟨rfl, ?_⟩
      rw [IntWalk.i64_in ((j : Int) - 1) (by omega)]
      refine ⟨⟨j, L' ++ [n.testBit j], rfl, by omega, ?_, h2'.mono fun k _ hk => okp_okp f1.size hk, f1.trans f2 fun k hk h => ?_⟩, by dsimp only; omega⟩
      · rw [← hL, nb]; simp
      · rcases h with h | h
        · exact h
        · omega
    · have : j = 0 := by omega
      subst this
      rw [nb, List.append_nil] at hL
      subst hL
      exact ⟨rfl, h1', f1⟩
theorem putE_eq {L : List Bool} {many : Int} (h : 0 ≤ many ∧ many ≤ 64) (hl : (L.length : Int) + many ≤ 1048576) : putE L many = 0 := by
  unfold putE; rw [if_neg (by omega), if_neg (by omega)]
theorem len8_ok {w : World} {R : Value → World → Prop} (n : Nat) (hn : n ≤ 56) (y : Nat) (hy : y < 256) (h : R (.int .i64 ((n + bl y : Nat) : Int)) w) : S66_k2 (y : Int) (n : Int) w R := by
  have hb : bl y ≤ 8 := by
    unfold bl; split
    · omega
    · have := (Nat.log2_lt (n := y) (k := 8) (by omega)).2 (by omega); omega
  refine ⟨UInt8.ofNat (bl y), ?_, ?_, ?_⟩
  · rw [IntWalk.u8_in _ (by omega)]; omega
  · rw [IntWalk.u8_in _ (by omega), Int.toNat_natCast]
    clear h hb hn
    revert y
    decide +kernel
  · have e : ((UInt8.ofNat (bl y)).toNat : Int) = ((bl y : Nat) : Int) := by simp; omega
    rw [e, IntWalk.i64_in ((bl y : Nat) : Int) (by omega), IntWalk.i64_in _ (by omega)]
    rw [show (n : Int) + ((bl y : Nat) : Int) = ((n + bl y : Nat) : Int) by omega]
    exact h
theorem len64_ok {x : Nat} (hx : x < 2 ^ 64) (w : World) : Ret Try.prog 66 [.int .u64 (x : Int)] w fun v w' => v = .int .i64 (bl x : Int) ∧ w' = w := by
  apply S66_calls
  have k1 : ∀ (n y : Nat), n ≤ 48 → y < 65536 → bl x = n + bl y → S66_k1 (y : Int) (n : Int) w (fun v w' => v = .int .i64 (bl x : Int) ∧ w' = w) := by
    intro n y hn hy he
    refine cD (fun h => ⟨by decide, ?_⟩) (fun h => ?_)
    · have e : Int.fdiv (y : Int) (2 ^ (min (Int.toNat 8) (IntKind.u64.bits))) = ((y / 2 ^ 8 : Nat) : Int) := shr_nat y 8 64
      rw [e, IntWalk.i64_in _ (by omega), show (n : Int) + 8 = ((n + 8 : Nat) : Int) by omega]
      refine len8_ok _ (by omega) _ (by omega) ⟨?_, rfl⟩
      rw [he, bl_shift (x := y) (s := 8) (by omega)]
      congr 2; omega
    · exact len8_ok _ (by omega) _ (by omega) ⟨by rw [he], rfl⟩
  have k0 : ∀ (n y : Nat), n ≤ 32 → y < 4294967296 → bl x = n + bl y → S66_k0 (y : Int) (n : Int) w (fun v w' => v = .int .i64 (bl x : Int) ∧ w' = w) := by
    intro n y hn hy he
    refine cD (fun h => ⟨by decide, ?_⟩) (fun h => ?_)
    · have e : Int.fdiv (y : Int) (2 ^ (min (Int.toNat 16) (IntKind.u64.bits))) = ((y / 2 ^ 16 : Nat) : Int) := shr_nat y 16 64
      rw [e, IntWalk.i64_in _ (by omega), show (n : Int) + 16 = ((n + 16 : Nat) : Int) by omega]
      refine k1 _ _ (by omega) (by omega) ?_
      rw [he, bl_shift (x := y) (s := 16) (by omega)]
      omega
    · exact k1 _ _ (by omega) (by omega) he
  refine cD (fun h => ⟨by decide, ?_⟩) (fun h => ?_)
  · have e : Int.fdiv (x : Int) (2 ^ (min (Int.toNat 32) (IntKind.u64.bits))) = ((x / 2 ^ 32 : Nat) : Int) := shr_nat x 32 64
    rw [e]
    refine k0 32 _ (by omega) (by omega) ?_
    rw [bl_shift (x := x) (s := 32) (by omega)]
    omega
  · exact k0 0 _ (by omega) (by omega) (by omega)
def cntE (L : List Bool) (n : Nat) : Int := if n = 18446744073709551615 then 1 else if 1048576 - (L.length : Int) < 2 * (lg (n + 1) : Int) + 1 then 4 else 0
def cntL (L : List Bool) (n : Nat) : List Bool := if cntE L n = 0 then L ++ cb n else L
theorem count_ok {w : World} {ok : Nat → Prop} {b : Nat} {L : List Bool} (h : WrAt w ok b L) {n : Nat} (hn : n < 2 ^ 64) :
    Ret Try.prog 45 [.pointer (some ⟨b, 0, none⟩), .int .u64 (n : Int)] w fun v w' => v = .int .i64 (cntE L n) ∧ WrAt w' (okp ok w) b (cntL L n) ∧ Fr ok w w' := by
  have h' := h
  obtain ⟨_, hl, A, c, hb, _⟩ := h'
  have c1 : w.cell? ((⟨b, 0, none⟩ : Addr).add 1) = some (.int .i64 (L.length : Int)) := by rw [add_g]; exact (hb.cell 1).trans rfl
  apply S45_calls
  refine cF rfl (cD (fun h0 => ?_) (fun h0 => ?_))
  · have e : cntE L n = 1 := by unfold cntE; rw [if_pos (by omega)]
    have e2 : cntL L n = L := by unfold cntL; rw [if_neg (by rw [e]; decide)]
    rw [e, e2]; exact ⟨rfl, h.keep, Fr.refl _ _⟩
  · have eu : IntKind.u64.wrap ((n : Int) + 1) = ((n + 1 : Nat) : Int) := by rw [IntWalk.u64_in _ (by omega)]; omega
    unfold S45_k0
    rw [eu]
    refine (len64_ok (x := n + 1) (by omega) w).use ?_
    rintro v w ⟨rfl, rfl⟩
    have hlg : lg (n + 1) < 64 := lg_lt (by omega) (by omega)
    have eb : bl (n + 1) = lg (n + 1) + 1 := by unfold bl; rw [if_neg (by omega)]
    refine ⟨_, rfl, _, rfl, _, c1, ?_⟩
    rw [eb, IntWalk.i64_in (1048576 - (L.length : Int)) (by omega), IntWalk.i64_in (2 * ((lg (n + 1) + 1 : Nat) : Int)) (by omega), IntWalk.i64_in (2 * ((lg (n + 1) + 1 : Nat) : Int) - 1) (by omega)]
    refine cD (fun h1 => ?_) (fun h1 => ?_)
    · have e : cntE L n = 4 := by unfold cntE; rw [if_neg (by omega), if_pos (by omega)]
      have e2 : cntL L n = L := by unfold cntL; rw [if_neg (by rw [e]; decide)]
      rw [e, e2]; exact ⟨rfl, h.keep, Fr.refl _ _⟩
    · have e : cntE L n = 0 := by unfold cntE; rw [if_neg (by omega), if_neg (by omega)]
      have e2 : cntL L n = L ++ cb n := by unfold cntL; rw [if_pos e]
      rw [e, e2]
      unfold S45_k1
      rw [IntWalk.i64_in (((lg (n + 1) + 1 : Nat) : Int) - 1) (by omega), eu]
      have p0 : putE L (((lg (n + 1) + 1 : Nat) : Int) - 1) = 0 := putE_eq (by omega) (by omega)
      refine (put_ok h (n := 0) (by decide) (((lg (n + 1) + 1 : Nat) : Int) - 1)).use ?_
      rintro v w1 ⟨rfl, h1, f1⟩
      unfold putL at h1
      rw [if_pos p0, nb_zero, show (((lg (n + 1) + 1 : Nat) : Int) - 1).toNat = lg (n + 1) by omega] at h1
      refine ⟨_, rfl, ?_⟩
      have p1 : putE (L ++ List.replicate (lg (n + 1)) false) ((lg (n + 1) + 1 : Nat) : Int) = 0 := putE_eq (by omega) (by rw [List.length_append, List.length_replicate]; omega)
      refine (put_ok h1 (n := n + 1) (by omega) ((lg (n + 1) + 1 : Nat) : Int)).use ?_
      rintro v w2 ⟨rfl, h2, f2⟩
      unfold putL at h2
      rw [if_pos p1, Int.toNat_natCast, List.append_assoc] at h2
      refine ⟨_, rfl, by rw [p1], h2.mono fun k _ hk => okp_okp f1.size hk, f1.trans f2 fun k hk h => ?_⟩
      rcases h with h | h
      · exact h
      · omega
theorem wout_ok {w : World} {ok : Nat → Prop} {b : Nat} {L : List Bool} (h : WrAt w ok b L) : Ret Try.prog 46 [.pointer (some ⟨b, 0, none⟩)] w fun v w' => ∃ A c, v = .slice A (pk L).length c ∧ Own w' 5 1 (from1 w.heap.size) A (pk L).length c (bvs (pk L)) ∧ Fr none1 w w' := by
  obtain ⟨_, hl, A, c, hb, ho⟩ := h
  apply S46_calls
  have hm := ho.max
  obtain ⟨A', c', w', r1, o1, f1⟩ := dupl (ty := 36) (c2 := c) Eby (m := (L.length + 7) / 8) (by rw [bvs_length, pk_length]; omega) ho.rd (bvs_one _) (by omega) hm
  refine cF rfl ⟨_, rfl, _, _, _, (hb.cell 0).trans rfl, _, _, _, w', r1, A', c', by rw [pk_length], by rw [pk_length]; exact o1, f1⟩
end Go.Proofs
