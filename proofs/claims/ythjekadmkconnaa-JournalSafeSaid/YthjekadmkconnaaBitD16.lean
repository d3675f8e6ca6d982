/- The writer's Put, Count, Len and Out; the bits of the reference. -/
import Derived.Test.YthjekadmkconnaaBitC16
set_option linter.unusedVariables false
namespace Go.Proofs
open Go Go.Eng
theorem okp_okp {ok : Nat → Prop} {w w1 : World} (h : w.heap.size ≤ w1.heap.size) {k : Nat} (hk : okp (okp ok w) w1 k) : okp ok w k := by
  rcases hk with hk | hk
  · exact hk
  · exact .inr (Nat.le_trans h hk)
def putE (L : List Bool) (many : Int) : Int := if many < 0 ∨ 64 < many then 1 else if 1048576 - (L.length : Int) < many then 4 else 0
def putL (L : List Bool) (n : Nat) (many : Int) : List Bool := if putE L many = 0 then L ++ nb n many.toNat else L
theorem WrAt.keep {w : World} {ok : Nat → Prop} {b : Nat} {L : List Bool} (h : WrAt w ok b L) : WrAt w (okp ok w) b L := h.mono fun _ _ h => .inl h
theorem put_ok {w : World} {ok : Nat → Prop} {b : Nat} {L : List Bool} (h : WrAt w ok b L) {n : Nat} (hn : n < 2 ^ 64) (many : Int) :
    Ret Try.prog 41 [.pointer (some ⟨b, 0, none⟩), .int .u64 (n : Int), .int .i64 many] w fun v w' => v = .int .i64 (putE L many) ∧ WrAt w' (okp ok w) b (putL L n many) ∧ Fr ok w w' := by
  have h' := h
  obtain ⟨_, hl, A, c, hb, _⟩ := h'
  have c1 : w.cell? ((⟨b, 0, none⟩ : Addr).add 1) = some (.int .i64 (L.length : Int)) := by rw [add_g]; exact (hb.cell 1).trans rfl
  apply S41_calls
  have bad : (many < 0 ∨ 64 < many) → putE L many = 1 := fun h => by unfold putE; rw [if_pos h]
  have bad2 : putE L many ≠ 0 → WrAt w (okp ok w) b (putL L n many) := fun h0 => by unfold putL; rw [if_neg h0]; exact h.keep
  have r1 : (many < 0 ∨ 64 < many) → Value.int .i64 1 = .int .i64 (putE L many) ∧ WrAt w (okp ok w) b (putL L n many) ∧ Fr ok w w := fun h1 => by
    rw [bad h1]; exact ⟨rfl, bad2 (by rw [bad h1]; decide), Fr.refl _ _⟩
  refine cF rfl (cD (fun h0 => cT rfl (r1 (.inl h0))) (fun h0 => cD (fun h1 => r1 (.inr h1)) (fun h1 => ?_)))
  refine ⟨_, rfl, _, c1, ?_⟩
  rw [IntWalk.i64_in (1048576 - (L.length : Int)) (by omega)]
  refine cD (fun h2 => ?_) (fun h2 => ?_)
  · have e : putE L many = 4 := by unfold putE; rw [if_neg (by omega), if_pos h2]
    rw [e]; exact ⟨rfl, bad2 (by rw [e]; decide), Fr.refl _ _⟩
  · have e : putE L many = 0 := by unfold putE; rw [if_neg (by omega), if_neg h2]
    have e2 : putL L n many = L ++ nb n many.toNat := by unfold putL; rw [if_pos e]
    rw [e, e2]
    refine ⟨fun s w' => ∃ (j : Nat) (L' : List Bool), s.1 = (j : Int) - 1 ∧ j ≤ many.toNat ∧ L' ++ nb n j = L ++ nb n many.toNat ∧ WrAt w' (okp ok w) b L' ∧ Fr ok w w', fun s _ => (s.1 + 1).toNat, ⟨many.toNat, L, ?_, Nat.le_refl _, rfl, h.keep, Fr.refl _ _⟩, ?_⟩
    · show IntKind.i64.wrap (many - 1) = _
      rw [IntWalk.i64_in _ (by omega)]; omega
    rintro J ⟨k, ⟨⟩⟩ w1 ⟨j, L', hk, hj, hL, h1', f1⟩
    dsimp only at hk ⊢
    subst hk
    refine cD (fun hlt => ?_) (fun hlt => ?_)
    · obtain ⟨j, rfl⟩ : ∃ j', j = j' + 1 := ⟨j - 1, by omega⟩
      have ej : ((j + 1 : Nat) : Int) - 1 = (j : Int) := by omega
      rw [ej] at hlt ⊢
      refine ⟨hlt, ?_⟩
      rw [bit64 n j hn (by omega)]
      have hlen : L'.length + (j + 1) = L.length + many.toNat := by
        have := congrArg List.length hL
        simpa [nb_length] using this
      refine (bit_ok h1' (by omega) (n.testBit j)).use ?_
      rintro v w2 ⟨rfl, h2', f2⟩
      refine ⟨rfl, ?_⟩
      rw [IntWalk.i64_in ((j : Int) - 1) (by omega)]
      refine ⟨⟨j, L' ++ [n.testBit j], rfl, by omega, ?_, h2'.mono fun k _ hk => okp_okp f1.size hk, f1.trans f2 fun k hk h => ?_⟩, by dsimp only; omega⟩
      · rw [← hL, nb]; simp
      · rcases h with h | h
        · exact h
        · omega
    · have : j = 0 := by omega
      subst this
      rw [nb, List.append_nil] at hL
      subst hL
      exact ⟨rfl, h1', f1⟩
theorem putE_eq {L : List Bool} {many : Int} (h : 0 ≤ many ∧ many ≤ 64) (hl : (L.length : Int) + many ≤ 1048576) : putE L many = 0 := by
  unfold putE; rw [if_neg (by omega), if_neg (by omega)]
theorem wout_ok {w : World} {ok : Nat → Prop} {b : Nat} {L : List Bool} (h : WrAt w ok b L) : Ret Try.prog 42 [.pointer (some ⟨b, 0, none⟩)] w fun v w' => ∃ A c, v = .slice A (pk L).length c ∧ Own w' 5 1 (from1 w.heap.size) A (pk L).length c (bvs (pk L)) ∧ Fr none1 w w' := by
  obtain ⟨_, hl, A, c, hb, ho⟩ := h
  apply S42_calls
  have hm := ho.max
  obtain ⟨A', c', w', r1, o1, f1⟩ := dupl (ty := 30) (c2 := c) Eby (m := (L.length + 7) / 8) (by rw [bvs_length, pk_length]; omega) ho.rd (bvs_one _) (by omega) hm
  refine cF rfl ⟨_, rfl, _, _, _, (hb.cell 0).trans rfl, _, _, _, w', r1, A', c', by rw [pk_length], by rw [pk_length]; exact o1, f1⟩
end Go.Proofs
