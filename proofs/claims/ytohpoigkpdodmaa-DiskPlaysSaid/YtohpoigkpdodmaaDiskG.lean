import Derived.Test.YtohpoigkpdodmaaDiskE
set_option linter.unusedVariables false
namespace Go.Proofs
open Go Go.Eng
theorem str_size (xs : List UInt8) : (str xs).size = xs.length := by simp [str, ByteArray.size]
theorem str_extract (xs : List UInt8) (n : Nat) : (str xs).extract 0 n = str (xs.take n) := by
  unfold str
  apply ByteArray.ext
  simp [ByteArray.data_extract]
theorem str_app (xs ys : List UInt8) : str xs ++ str ys = str (xs ++ ys) := by
  unfold str
  apply ByteArray.ext
  simp
theorem prefix2_ok (xs : List UInt8) (n : Nat) (hn : n ≤ xs.length) (w : World) : Ret Try.prog 26 [.string (str xs), .string (str (xs.take n))] w fun v w' => v = .bool true ∧ w' = w := by
  apply S26_calls
  have e : (xs.take n).length = n := by simp; omega
  refine cT (by rw [str_size, str_size, e]; simp; omega) ⟨by omega, by rw [str_size, str_size, e]; omega, ?_, rfl⟩
  rw [str_size, e, Int.toNat_natCast, str_extract]
  simp
theorem prefix_ok (xs : List UInt8) (n : Nat) (hn : n ≤ xs.length) (w : World) : Ret Try.prog 18 [.string (str xs), .string (str (xs.take n))] w fun v w' => v = .bool true ∧ w' = w := by
  apply S18_calls
  refine (prefix2_ok xs n hn w).use ?_
  rintro v w ⟨rfl, rfl⟩
  exact ⟨_, rfl, rfl, rfl⟩
/-- What an act of the kinds 0, 1, 3, 4 does to a disk. -/
theorem begins_facts (D : Dsk) (x : Act) (hD : DOk D) (hk : kd x = 0 ∨ kd x = 1 ∨ kd x = 3 ∨ kd x = 4) :
    D.safe ≤ (doD D x).safe ∧ (doD D x).safe ≤ (if kd x = 0 ∧ doE D x = 0 then D.bs ++ x.2.1 else D.bs).length ∧ (kd x = 1 → doE D x = 0 → (doD D x).safe = D.bs.length) ∧
    (doD D x).bs = (if kd x = 0 ∧ doE D x = 0 then D.bs ++ x.2.1 else D.bs).take (doD D x).bs.length ∧ (doD D x).bs.length ≤ (if kd x = 0 ∧ doE D x = 0 then D.bs ++ x.2.1 else D.bs).length ∧
    (kd x ≠ 4 → (doD D x).bs = (if kd x = 0 ∧ doE D x = 0 then D.bs ++ x.2.1 else D.bs)) ∧ (kd x = 4 → (doD D x).dead = false) := by
  obtain ⟨h1, h2, h3, h4⟩ := hD
  obtain ⟨p1, p2⟩ := pw_bs D
  rcases hk with k | k | k | k
  · unfold doD doE
    simp only [k, if_true]
    unfold apD
    by_cases e : apE D x.2.1 = 0
    · simp only [e, if_true, and_self, p2]
      refine ⟨Nat.le_refl _, by simp; omega, by simp, by rw [List.take_of_length_le (Nat.le_refl _)], Nat.le_refl _, by simp, by simp⟩
    · simp only [e, if_false, and_false, p1, p2]
      refine ⟨Nat.le_refl _, h1, by simp, by rw [List.take_of_length_le (Nat.le_refl _)], Nat.le_refl _, by simp, by simp⟩
  · unfold doD doE
    simp only [k]
    simp
    unfold syD syE
    by_cases e : pwE D = 0
    · simp only [e, if_true, p1]
      refine ⟨h1, Nat.le_refl _, by simp, by simp, Nat.le_refl _, trivial⟩
    · simp only [e, if_false, p1, p2]
      refine ⟨Nat.le_refl _, h1, by simp, by simp, Nat.le_refl _, trivial⟩
  · unfold doD doE
    simp only [k]
    simp
    unfold ctD
    split <;> simp <;> exact h1
  · unfold doD doE
    simp only [k]
    simp
    unfold crD
    have hk2 : D.safe + kept D x.2.2 ≤ D.bs.length := by unfold kept; omega
    simp only [List.length_take, Nat.min_eq_left hk2]
    refine ⟨by omega, hk2, ?_⟩
    simp
    try omega
section
variable {W : World}
theorem diskBegins_ok {A : Option Addr} {l c : Nat} {al : List Act} (h : RowAt W.heap.size 3 (ActQ W W.heap.size) A al) (hl : al.length = l) (hc : l ≤ c) : Ret Try.prog 4 [.slice A l c] W (Done W) := by
  apply S4_calls
  refine (shown_ok _).use ?_
  rintro v w1 ⟨rfl, f1⟩
  refine ⟨_, rfl, ?_⟩
  refine (new_ok w1).use ?_
  rintro v w2 ⟨rfl, h2, f2⟩
  have hd : W.heap.size ≤ w1.heap.size := f1.size
  have g2 : Bel W.heap.size W w2 := f1.bel0.trans' f2.bel0
  have h2' : DIn W.heap.size w2 w1.heap.size ⟨[], 0, false, -1⟩ := h2.mono fun k _ h => Nat.le_trans hd h
  generalize w1.heap.size = d at h2' hd ⊢
  refine ⟨_, rfl, cF rfl ?_⟩
  have hrow2 : RowAt W.heap.size 3 (ActQ w2 W.heap.size) A al := fun j x hx => by
    obtain ⟨a, ha, hb, hq⟩ := h j x hx
    exact ⟨a, ha, hb, hq.fr (Nat.le_refl _) (by rw [add_block]; exact hb) g2⟩
  refine (few_ok hrow2 hl hc).use ?_
  rintro v w2 ⟨rfl, n1, d1, bs, rfl, hbl, hb100, hrow, hsmall⟩
  refine ⟨_, _, _, rfl, ?_⟩
  refine ⟨fun s w' => ∃ (n : Nat) (D : Dsk), s.2.1 = (n : Int) ∧ n ≤ n1 ∧ s.1 = str D.bs ∧ Bel W.heap.size w2 w' ∧ DIn W.heap.size w' d D, fun s _ => n1 - s.2.1.toNat, ⟨0, _, rfl, Nat.zero_le _, rfl, Fr.refl _ _, h2'⟩, ?_⟩
  rintro J ⟨all, i, ⟨⟩⟩ w3 ⟨n, D, hi, hn, hall, g3, h3⟩
  dsimp only at hi hall ⊢
  subst hi hall
  have gW := g2.trans' g3
  refine cD (fun hlt => ?_) (fun hlt => ⟨rfl, gW.top⟩)
  have hx : bs[n]? = some bs[n] := List.getElem?_eq_getElem (by omega)
  obtain ⟨a, ha, hab, hq⟩ := hrow n _ hx
  obtain ⟨A1, d', q1, q2, q3, q4, q5, q6, q7, q8⟩ := hq.fr g2.size (by rw [add_block]; exact hab) g3
  have hsm := hsmall _ (List.mem_of_getElem? hx)
  refine ⟨a, ha, by omega, by omega, _, by rw [Int.toNat_natCast]; exact q1, _, _, _, by rw [Int.toNat_natCast]; exact q2, _, by rw [Int.toNat_natCast]; exact q3, ?_⟩
  obtain ⟨p1, p2, p3, p4, p5, p6, b4, f4⟩ := cp3 w3 36 (.int .u8 0) (.slice none 0 0) (.int .i64 0) (.int .u8 bs[n].1) (.slice A1 bs[n].2.1.length d') (.int .i64 bs[n].2.2)
  refine ⟨p1, p2, p3, p4, p5, p6, ?_⟩
  have hp3 : w3.heap.size ≠ d := fun e => by have := h3.lt; omega
  generalize World.setCell _ _ _ = w4 at b4 f4 ⊢
  generalize w3.heap.size = p at b4 hp3 ⊢
  have h4 := h3.fr0 f4
  have g4 := g3.trans' f4.bel0
  have hD := h4.dok
  generalize bs[n] = x at q4 q5 q6 q7 q8 hsm b4 ⊢
  refine ⟨_, (b4.cell 0).trans rfl, by decide, ?_⟩
  have hk0 : 0 ≤ kd x := Int.tmod_nonneg _ q5
  show cond (decide (kd x = 2)) (S4_k3 true _ _ _ (kd x) _ _ _ _ _ true w4 _ _) (S4_k3 true _ _ _ (kd x) _ _ _ _ _ (decide ((4 : Int) < kd x)) w4 _ _)
  have skip : ∃ (n' : Nat) (D' : Dsk), (n : Int) + 1 = (n' : Int) ∧ n' ≤ n1 ∧ str D.bs = str D'.bs ∧ Bel W.heap.size w2 w4 ∧ DIn W.heap.size w4 d D' := ⟨n + 1, D, rfl, by omega, rfl, g4, h4⟩
  refine cD (fun hk2 => ?_) (fun hk2 => ?_)
  · refine cT rfl ?_
    rw [IntWalk.i64_in ((n : Int) + 1) (by omega)]
    exact ⟨skip, by dsimp only; omega⟩
  refine cD (fun hk4 => ?_) (fun hk4 => ?_)
  · rw [IntWalk.i64_in ((n : Int) + 1) (by omega)]
    exact ⟨skip, by dsimp only; omega⟩
  have hk : kd x = 0 ∨ kd x = 1 ∨ kd x = 3 ∨ kd x = 4 := by omega
  refine (safe_ok h4).use ?_
  rintro v w4 ⟨rfl, rfl⟩
  refine ⟨_, rfl, _, (b4.cell 0).trans rfl, _, _, _, by rw [add_g]; exact (b4.cell 1).trans rfl, _, by rw [add_g]; exact (b4.cell 2).trans rfl, ?_⟩
  have q4' := q4.fr f4 fun _ _ _ h => h
  have q4t := q4'
  refine (does_ok h4.tight x (c := d') q4' (fun k _ h => by omega) q8).use ?_
  rintro v w5 ⟨rfl, h5, f5⟩
  have b5 := b4.fr f5 fun h => b4.notTy (by decide) h.2
  have r5 : Rd w5 (fun k => k < W.heap.size) A1 (bvs x.2.1) := q4'.fr f5 fun k _ h1 h2 => by
    have h2 : W.heap.size ≤ k := h2.1
    omega
  have h5' : DIn W.heap.size w5 d (doD D x) := h5.mono fun k _ h => by
    rcases h with h | h
    · exact h.1
    · exact Nat.le_trans (g2.trans' g4).size h
  have g5 : Bel W.heap.size w2 w5 := g4.trans' (f5.mono fun k _ h => h.1)
  obtain ⟨c1, c2, c3, c4, c5, c6, c7⟩ := begins_facts D x hD hk
  have hD5 := h5'.dok
  refine ⟨_, rfl, ?_⟩
  -- behind what was appended
  have rest : ∀ (ys : List UInt8), ys = (if kd x = 0 ∧ doE D x = 0 then D.bs ++ x.2.1 else D.bs) →
      S4_k6 true (some ⟨d, 0, none⟩) (str ys) (kd x) (D.safe : Int) (doE D x) A n1 d1 (n1 : Int) (n : Int) w5 (Done W) (fun s' w'' => (∃ (n : Nat) (D : Dsk), s'.2.1 = (n : Int) ∧ n ≤ n1 ∧ s'.1 = str D.bs ∧ Bel W.heap.size w2 w'' ∧ DIn W.heap.size w'' d D) ∧ n1 - s'.2.1.toNat < n1 - (n : Int).toNat) := by
    intro ys hys
    rw [← hys] at c2 c4 c5 c6
    have next : S4_k7 true (some ⟨d, 0, none⟩) (str ys) (kd x) A n1 d1 (n1 : Int) (n : Int) false w5 (Done W) (fun s' w'' => (∃ (n : Nat) (D : Dsk), s'.2.1 = (n : Int) ∧ n ≤ n1 ∧ s'.1 = str D.bs ∧ Bel W.heap.size w2 w'' ∧ DIn W.heap.size w'' d D) ∧ n1 - s'.2.1.toNat < n1 - (n : Int).toNat) := by
      refine cF rfl ?_
      refine (dead_ok h5').use ?_
      rintro v w5 ⟨rfl, rfl⟩
      refine ⟨_, rfl, cB (fun hdd => ?_) (fun hdd => ?_)⟩
      · have hne : kd x ≠ 4 := fun e => by rw [c7 e] at hdd; cases hdd
        rw [IntWalk.i64_in ((n : Int) + 1) (by omega), ← c6 hne]
        exact ⟨⟨n + 1, _, rfl, by omega, rfl, g5, h5'⟩, by dsimp only; omega⟩
      · refine (read_ok h5').use ?_
        rintro v w6 ⟨A6, c6', rfl, o6, f6⟩
        have eE : rdE (doD D x) = 0 := by unfold rdE; rw [hdd]; rfl
        have eB : rdB (doD D x) = (doD D x).bs := by unfold rdB; rw [hdd]; rfl
        rw [eE, eB]
        rw [eB] at o6
        have h6 := h5'.fr0 f6
        have g6 := g5.trans' f6.bel0
        have hts := run_toString (P := Try.prog) (t := 28) (ty := 9) (c := c6') U28 U5 U9 rfl o6.rd
        refine ⟨_, _, _, _, rfl, cF rfl ⟨_, _, hts, ?_⟩⟩
        have hp := prefix_ok ys (doD D x).bs.length c5 w6
        rw [← c4] at hp
        refine hp.use ?_
        rintro v w6 ⟨rfl, rfl⟩
        refine ⟨_, rfl, cF rfl ?_⟩
        refine (safe_ok h6).use ?_
        rintro v w6 ⟨rfl, rfl⟩
        refine ⟨_, rfl, ?_⟩
        rw [decide_eq_false (show ¬ ((doD D x).bs.length : Int) < ((doD D x).safe : Int) by have := hD5.1; omega)]
        refine cF rfl ?_
        have fin : S4_k12 true (some ⟨d, 0, none⟩) (str (doD D x).bs) A6 (doD D x).bs.length c6' A n1 d1 (n1 : Int) (n : Int) w6 (Done W) (fun s' w'' => (∃ (n : Nat) (D : Dsk), s'.2.1 = (n : Int) ∧ n ≤ n1 ∧ s'.1 = str D.bs ∧ Bel W.heap.size w2 w'' ∧ DIn W.heap.size w'' d D) ∧ n1 - s'.2.1.toNat < n1 - (n : Int).toNat) := by
          refine ⟨_, _, hts, cF (by simp) ?_⟩
          rw [IntWalk.i64_in ((n : Int) + 1) (by omega)]
          exact ⟨⟨n + 1, _, rfl, by omega, rfl, g6, h6⟩, by dsimp only; omega⟩
        refine cD (fun e4 => ⟨_, _, hts, fin⟩) (fun e4 => ?_)
        rw [← c6 e4]
        exact fin
    refine (safe_ok h5').use ?_
    rintro v w5 ⟨rfl, rfl⟩
    refine ⟨_, rfl, cF (by simp; omega) ?_⟩
    refine (safe_ok h5').use ?_
    rintro v w5 ⟨rfl, rfl⟩
    refine ⟨_, rfl, cF (by rw [str_size]; simp; omega) ?_⟩
    refine cD (fun e1 => cD (fun e2 => ?_) (fun _ => next)) (fun _ => next)
    refine (safe_ok h5').use ?_
    rintro v w5 ⟨rfl, rfl⟩
    refine ⟨_, rfl, ?_⟩
    have hy : ys = D.bs := by rw [hys, if_neg (by omega)]
    have : (!decide (((doD D x).safe : Int) = ((str ys).size : Int))) = false := by
      rw [str_size, c3 e1 e2, hy]; simp
    rw [this]
    exact next
  refine cD (fun e0 => ?_) (fun e0 => ?_)
  · refine cD (fun eE => ?_) (fun eE => ?_)
    · refine ⟨_, _, _, by rw [add_g]; exact (b5.cell 1).trans rfl, _, _, run_toString U28 U5 U9 rfl r5, ?_, ?_⟩
      · rw [str_size, str_size]
        have := hD.2.1
        omega
      · rw [str_app]
        exact rest _ (by rw [if_pos ⟨e0, eE⟩])
    · exact rest _ (by rw [if_neg (fun h => eE h.2)])
  · exact cF rfl (rest _ (by rw [if_neg (fun h => e0 h.1)]))
end
end Go.Proofs
