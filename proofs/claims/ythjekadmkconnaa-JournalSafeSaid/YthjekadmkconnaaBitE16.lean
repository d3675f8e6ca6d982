/- The reference's bits, counts and bytes: contracts. -/
import Derived.Test.YthjekadmkconnaaBitD16
set_option linter.unusedVariables false
namespace Go.Proofs
open Go Go.Eng
theorem Ebo : ElT Try.prog 86 4 1 1 := elT_of (by kernel_rfl)
theorem half_nat (n j : Nat) (hn : n < 2 ^ 64) : IntKind.u64.wrap (Int.tdiv ((n / 2 ^ j : Nat) : Int) 2) = ((n / 2 ^ (j + 1) : Nat) : Int) := by
  have h1 := Nat.div_le_self n (2 ^ j)
  rw [Nat.pow_succ, ← Nat.div_div_eq_div_mul]
  generalize n / 2 ^ j = q at h1 ⊢
  rw [Int.tdiv_eq_ediv_of_nonneg (by omega), IntWalk.u64_in _ (by omega)]
  omega
theorem odd_nat (n j : Nat) : decide (Int.tmod ((n / 2 ^ j : Nat) : Int) 2 = 1) = n.testBit j := by
  rw [Nat.testBit_eq_decide_div_mod_eq]
  generalize n / 2 ^ j = q
  rw [Int.tmod_eq_emod_of_nonneg (by omega), decide_eq_decide]
  omega
theorem u8_add {a b : Nat} (h : a + b < 256) : IntKind.u8.wrap ((a : Int) + (b : Int)) = ((a + b : Nat) : Int) := by
  rw [IntWalk.u8_in _ (by omega)]; omega
theorem fbits_ok {n m : Nat} (hn : n < 2 ^ 64) (hm : m ≤ 64) (w : World) : Ret Try.prog 51 [.int .u64 (n : Int), .int .i64 (m : Int)] w fun v w' => ∃ A c, v = .slice A m c ∧ Own w' 4 1 (bw w.heap.size w') A m c (bls (nb n m)) ∧ Fr none1 w w' := by
  apply S51_calls
  refine ⟨fun s w' => ∃ j : Nat, s.2.2.1 = (j : Int) ∧ j ≤ m ∧ s.1 = ((n / 2 ^ j : Nat) : Int) ∧ s.2.1.2.1 = j ∧ Own w' 4 1 (bw w.heap.size w') s.2.1.1 j s.2.1.2.2 (bls (nb n j)) ∧ Fr none1 w w', fun s _ => m - s.2.2.1.toNat, ⟨0, rfl, Nat.zero_le _, by simp, rfl, Own.nil _ _ _ _, Fr.refl _ _⟩, ?_⟩
  rintro J ⟨n', ⟨A, l, c⟩, i, ⟨⟩⟩ w1 ⟨j, hi, hj, hn', hl, o1, f1⟩
  dsimp only at hi hn' hl o1 ⊢
  subst hi hn' hl
  refine cD (fun hlt => ?_) (fun hlt => ?_)
  · have a2 : Fr none1 w1 (w1.alloc (.cells ⟨[.bool (n.testBit l)]⟩ 4)) := Fr.alloc _ _
    have lit := Own.lit w1 4 1 1 [.bool (n.testBit l)] rfl (by simp [maxLen])
    obtain ⟨A', c', w2, r2, o2, f2, _⟩ := run_append (ty := 86) (m := l) (c2 := c) Ebo lit (by rw [bls_length, nb_length]; omega) (o1.fr a2 fun _ _ _ h => h).rd (bls_one _) (by omega) (by simp only [maxLen]; omega)
    refine ⟨by decide, A', 1 + l, c', w2, by rw [odd_nat]; exact r2, by decide, ?_⟩
    rw [half_nat n l hn, IntWalk.i64_in ((l : Int) + 1) (by omega)]
    have e : [Value.bool (n.testBit l)] ++ bls (nb n l) = bls (nb n (l + 1)) := by simp [nb, bls]
    rw [e] at o2
    have f3 : Fr none1 w1 w2 := a2.trans f2 fun k hk ⟨a, ha, e⟩ => by cases ha; simp only at e; omega
    refine ⟨⟨l + 1, rfl, by omega, rfl, Nat.add_comm 1 l, ?_, f1.trans' f3⟩, by dsimp only; omega⟩
    rw [Nat.add_comm 1 l] at o2
    have := f1.size
    have := a2.size
    exact o2.mono fun k hk h => by
      rcases h with h | h
      · exact ⟨by omega, hk⟩
      · exact ⟨by omega, hk⟩
  · have : l = m := by omega
    subst this
    exact ⟨A, c, rfl, o1, f1⟩
theorem pow_half : ∀ r : Fin 8, ∀ k : Fin 9, k.val < r.val → IntKind.u8.wrap (Int.tdiv ((128 / 2 ^ k.val : Nat) : Int) 2) = ((128 / 2 ^ (k.val + 1) : Nat) : Int) := by decide +kernel
theorem pow_end : ∀ r : Fin 8, 128 / 2 ^ r.val = 2 ^ (7 - r.val) := by decide +kernel
theorem fbytes_k2 {w0 w : World} {L : List Bool} {i : Nat} {Al : Option Addr} {cl : Nat} {okl : Nat → Prop} {Ab : Option Addr} {cb' : Nat} {R : Value → World → Prop} {B1 : (Option Addr × Nat × Nat) × (Int) × Unit → World → Prop}
    (hL : Rd w okl Al (bls L)) (hi : i < L.length) (hm : L.length ≤ 1000000000) (ho : Own w 5 1 (bw w0.heap.size w) Ab (i / 8 + 1) cb' (bvs (base (L.take i))))
    (k : ∀ w', Own w' 5 1 (bw w0.heap.size w') Ab (i / 8 + 1) cb' (bvs (pk (L.take (i + 1)))) → Bel w0.heap.size w w' → B1 ((Ab, i / 8 + 1, cb'), (i : Int) + 1, ()) w') :
    S50_k2 Al L.length cl Ab (i / 8 + 1) cb' (i : Int) w R B1 := by
  skip
  have hli : (L.take i).length = i := by rw [List.length_take]; omega
  have hx : L[i]? = some L[i] := List.getElem?_eq_getElem hi
  have htk : L.take (i + 1) = L.take i ++ [L[i]] := by rw [List.take_add_one, hx]; rfl
  obtain ⟨a, rfl, _, cx⟩ := hL.at (bls_get hx)
  refine ⟨_, rfl, by omega, by omega, L[i], by rw [Int.toNat_natCast, Nat.mul_one]; exact cx, ?_⟩
  rw [IntWalk.i64_in ((i : Int) + 1) (by omega)]
  refine cB (fun hb => ?_) (fun hb => ?_)
  · rw [hb] at htk
    have hr := byteAt_mod (L.take i)
    have hlt := byteAt_lt (L.take i) (i / 8)
    rw [hli] at hr
    obtain ⟨_, v2⟩ := or8 hlt (r := i % 8) (by omega) hr
    refine ⟨fun s w' => w' = w ∧ ∃ j : Nat, s.2.1 = (j : Int) ∧ j ≤ i % 8 ∧ s.1 = ((128 / 2 ^ j : Nat) : Int), fun s _ => i % 8 - s.2.1.toNat, ⟨rfl, 0, rfl, Nat.zero_le _, rfl⟩, ?_⟩
    rintro J ⟨p, k', ⟨⟩⟩ w1 ⟨rfl, j, hk, hj, hp⟩
    dsimp only at hk hp ⊢
    subst hk hp
    have e9 : Int.tmod (i : Int) 8 = ((i % 8 : Nat) : Int) := by rw [Int.tmod_eq_emod_of_nonneg (by omega)]; omega
    refine ⟨by decide, ?_⟩
    rw [e9]
    refine cD (fun hlt => ?_) (fun hlt => ?_)
    · refine ⟨by decide, ?_⟩
      have e := pow_half ⟨i % 8, by omega⟩ ⟨j, by omega⟩ (by simp only; omega)
      simp only at e
      rw [e, IntWalk.i64_in ((j : Int) + 1) (by omega)]
      exact ⟨⟨rfl, j + 1, rfl, by omega, rfl⟩, by dsimp only; omega⟩
    · have : j = i % 8 := by omega
      subst this
      have e7 := pow_end ⟨i % 8, by omega⟩
      simp only at e7
      rw [e7]
      have e8 : IntKind.i64.wrap (Int.tdiv (i : Int) 8) = ((i / 8 : Nat) : Int) := by
        rw [Int.tdiv_eq_ediv_of_nonneg (by omega), IntWalk.i64_in _ (by omega)]; omega
      have hbx : (bvs (base (L.take i)))[i / 8]? = some (.int .u8 ((byteAt (L.take i) (i / 8) : Nat) : Int)) := by
        rw [bvs_get (base_get (L.take i) (by rw [hli]; exact Nat.le_refl _))]
        simp [bv]; omega
      obtain ⟨g, rfl, _, _⟩ := ho.form (by omega)
      obtain ⟨a', ha, _, cy⟩ := ho.rd.at hbx
      cases ha
      obtain ⟨s1, s2⟩ := ho.store (j := i / 8) (by rw [bvs_length, base_length, hli]; omega)
      rw [add_g] at cy
      have o2 := ho.set (i / 8) (.int .u8 ((byteAt (L.take i) (i / 8) + 2 ^ (7 - i % 8) : Nat) : Int))
      rw [u8_set _ _ _ v2] at o2
      have o3 : (base (L.take i)).set (i / 8) (UInt8.ofNat (byteAt (L.take i) (i / 8) + 2 ^ (7 - i % 8))) = pk (L.take (i + 1)) := by rw [htk, pk_snoc, hli]; simp
      rw [o3] at o2
      have f2 := Fr.setCell (F := from1 w0.heap.size) w1 (p := ⟨g, i / 8, none⟩) (ho.has _ rfl).1.1 (.int .u8 ((byteAt (L.take i) (i / 8) + 2 ^ (7 - i % 8) : Nat) : Int))
      have q := u8_add v2
      unfold S50_k5
      rw [e8, IntWalk.i64_in ((i : Int) + 1) (by omega), Int.toNat_natCast, Nat.mul_one]
      refine ⟨by decide, by decide, _, rfl, by omega, by omega, _, by rw [add_g]; exact cy, _, rfl, by omega, by omega, by rw [add_g]; exact s1, by rw [add_g]; exact s2, ?_⟩
      rw [q, add_g]
      exact k _ (o2.mono fun k hk h => ⟨h.1, hk⟩) f2
  · rw [hb] at htk
    refine k w (by rw [htk, pk_snoc0]; exact ho) (Fr.refl _ _)
theorem fbytes_ok {w : World} {L : List Bool} {Al : Option Addr} {cl : Nat} {okl : Nat → Prop} (hL : Rd w okl Al (bls L)) (hm : L.length ≤ 1000000000) :
    Ret Try.prog 50 [.slice Al L.length cl] w fun v w' => ∃ A c, v = .slice A (pk L).length c ∧ Own w' 5 1 (bw w.heap.size w') A (pk L).length c (bvs (pk L)) ∧ Fr none1 w w' := by
  skip
  skip
  apply S50_calls
  refine ⟨fun s w' => ∃ i : Nat, s.2.1 = (i : Int) ∧ i ≤ L.length ∧ s.1.2.1 = (i + 7) / 8 ∧ Own w' 5 1 (bw w.heap.size w') s.1.1 ((i + 7) / 8) s.1.2.2 (bvs (pk (L.take i))) ∧ Bel w.heap.size w w', fun s _ => L.length - s.2.1.toNat, ⟨0, rfl, Nat.zero_le _, rfl, by rw [List.take_zero]; exact Own.nil _ _ _ _, Fr.refl _ _⟩, ?_⟩
  rintro J ⟨⟨A, l, c⟩, i', ⟨⟩⟩ w1 ⟨i, hi, hle, hl, o1, g1⟩
  dsimp only at hi hl o1 ⊢
  subst hi hl
  refine cD (fun hlt => ?_) (fun hlt => ?_)
  · have hli : (L.take i).length = i := by rw [List.length_take]; omega
    have e9 : Int.tmod (i : Int) 8 = ((i % 8 : Nat) : Int) := by rw [Int.tmod_eq_emod_of_nonneg (by omega)]; omega
    refine ⟨by decide, ?_⟩
    rw [e9]
    have hLf : ∀ {w'}, Bel w.heap.size w w' → Rd w' okl Al (bls L) := fun g => hL.fr g fun k hk _ h => by simp only [from1] at h; omega
    have e7 : (i + 1 + 7) / 8 = i / 8 + 1 := by omega
    refine cD (fun hz => ?_) (fun hz => ?_)
    · have hz' : i % 8 = 0 := by omega
      obtain ⟨A', c', w3, r3, o3, f3, g3⟩ := app1 (ty := 30) Eby o1 g1.size (.int .u8 0) rfl (by omega) (by simp only [maxLen]; omega)
      rw [show (i + 7) / 8 + 1 = i / 8 + 1 by omega] at r3 o3
      refine ⟨A', _, c', w3, r3, ?_⟩
      have g13 := g1.trans' g3
      refine fbytes_k2 (w0 := w) (hLf g13) (by omega) hm ?_ fun w' o g => ⟨⟨i + 1, rfl, by omega, e7.symm, by rw [e7]; exact o, g13.trans' g⟩, by dsimp only; omega⟩
      rw [base_eq _ (by rw [hli]; exact hz')]
      simpa [bvs, bv] using o3
    · have hz' : i % 8 ≠ 0 := by omega
      rw [show (i + 7) / 8 = i / 8 + 1 by omega] at o1 ⊢
      refine fbytes_k2 (w0 := w) (hLf g1) (by omega) hm ?_ fun w' o g => ⟨⟨i + 1, rfl, by omega, e7.symm, by rw [e7]; exact o, g1.trans' g⟩, by dsimp only; omega⟩
      rw [base_ne _ (by rw [hli]; exact hz')]
      exact o1
  · have : i = L.length := by omega
    subst this
    rw [List.take_length] at o1
    exact ⟨A, c, by rw [pk_length], by rw [pk_length]; exact o1, g1.top⟩
end Go.Proofs
