import Derived.Test.YtohpoigkpdodmaaDiskE
set_option linter.unusedVariables false
namespace Go.Proofs
open Go Go.Eng
section
variable {W : World}
theorem diskApart_ok {A A' : Option Addr} {l c l' c' : Nat} {al al' : List Act} (h : RowAt W.heap.size 3 (ActQ W W.heap.size) A al) (hl : al.length = l) (hc : l ≤ c) (h' : RowAt W.heap.size 3 (ActQ W W.heap.size) A' al') (hl' : al'.length = l') (hc' : l' ≤ c') :
    Ret Try.prog 7 [.slice A l c, .slice A' l' c'] W (Done W) := by
  apply S7_calls
  refine (shown_ok _).use ?_
  rintro v w1 ⟨rfl, f1⟩
  refine ⟨_, rfl, ?_⟩
  refine (new_ok w1).use ?_
  rintro v w2 ⟨rfl, h2, f2⟩
  have hd : W.heap.size ≤ w1.heap.size := f1.size
  have g2 : Bel W.heap.size W w2 := f1.bel0.trans' f2.bel0
  have h2' : DIn W.heap.size w2 w1.heap.size ⟨[], 0, false, -1⟩ := h2.mono fun k _ h => Nat.le_trans hd h
  generalize w1.heap.size = d at h2' hd ⊢
  refine ⟨_, rfl, cF rfl ?_⟩
  have hrow2 : RowAt W.heap.size 3 (ActQ w2 W.heap.size) A al := fun j x hx => by
    obtain ⟨a, ha, hb, hq⟩ := h j x hx
    exact ⟨a, ha, hb, hq.fr (Nat.le_refl _) (by rw [add_block]; exact hb) g2⟩
  refine (few_ok hrow2 hl hc).use ?_
  rintro v w2 ⟨rfl, n1, d1, bs, rfl, hbl, hb100, hrow, hsmall⟩
  refine ⟨_, _, _, rfl, ?_⟩
  refine ⟨fun s w' => ∃ (n : Nat) (D : Dsk), s.1 = (n : Int) ∧ n ≤ n1 ∧ Bel W.heap.size w2 w' ∧ DIn W.heap.size w' d D, fun s _ => n1 - s.1.toNat, ⟨0, _, rfl, Nat.zero_le _, Fr.refl _ _, h2'⟩, ?_⟩
  rintro J ⟨i, ⟨⟩⟩ w3 ⟨n, D, hi, hn, g3, h3⟩
  dsimp only at hi ⊢
  subst hi
  have gW := g2.trans' g3
  refine cD (fun hlt => ?_) (fun hlt => ?_)
  · have hx : bs[n]? = some bs[n] := List.getElem?_eq_getElem (by omega)
    obtain ⟨a, ha, hab, hq⟩ := hrow n _ hx
    obtain ⟨A1, d', q1, q2, q3, q4, q5, q6, q7, q8⟩ := hq.fr g2.size (by rw [add_block]; exact hab) g3
    refine ⟨a, ha, by omega, by omega, _, by rw [Int.toNat_natCast]; exact q1, _, _, _, by rw [Int.toNat_natCast]; exact q2, _, by rw [Int.toNat_natCast]; exact q3, ?_⟩
    obtain ⟨p1, p2, p3, p4, p5, p6, b4, f4⟩ := cp3 w3 36 (.int .u8 0) (.slice none 0 0) (.int .i64 0) (.int .u8 bs[n].1) (.slice A1 bs[n].2.1.length d') (.int .i64 bs[n].2.2)
    refine ⟨p1, p2, p3, p4, p5, p6, ?_⟩
    generalize World.setCell _ _ _ = w4 at b4 f4 ⊢
    have h4 := h3.fr0 f4
    have g4 := g3.trans' f4.bel0
    refine ⟨_, (b4.cell 0).trans rfl, _, _, _, (b4.cell 1).trans rfl, _, (b4.cell 2).trans rfl, ?_⟩
    refine (does_ok h4 bs[n] (c := d') (q4.fr f4 fun _ _ _ h => h) (fun k _ h => by omega) q8).use ?_
    rintro v w5 ⟨rfl, h5, f5⟩
    rw [IntWalk.i64_in ((n : Int) + 1) (by omega)]
    exact ⟨_, rfl, ⟨n + 1, _, rfl, by omega, g4.trans' f5, DIn.of (g2.trans' g4).size h5⟩, by dsimp only; omega⟩
  · -- all acts are done: a copy
    refine (read_ok h3).use ?_
    rintro v w4 ⟨A4, c4, rfl, o4, f4⟩
    refine ⟨_, _, _, _, rfl, ?_⟩
    have h3b : DiskAt w3 (bw W.heap.size w3) d D := h3.mono fun k hk h => ⟨h, hk⟩
    have h4 := h3b.fr0 f4
    refine (dead_ok h4).use ?_
    rintro v w4 ⟨rfl, rfl⟩
    refine ⟨_, rfl, ?_⟩
    refine (safe_ok h4).use ?_
    rintro v w4 ⟨rfl, rfl⟩
    refine ⟨_, rfl, ?_⟩
    refine (copy_ok h4).use ?_
    rintro v w5 ⟨e, rfl, h5, f5⟩
    refine ⟨_, rfl, cF rfl ?_⟩
    have d5 := h4.fr0 f5
    refine (read_ok h5).use ?_
    rintro v w6 ⟨A6, c6, rfl, o6, f6⟩
    have o4' := (o4.fr f5 fun _ _ _ h => h).fr f6 fun _ _ _ h => h
    refine ⟨_, _, _, _, rfl, _, _, run_toString U28 U5 U9 rfl o4'.rd, _, _, run_toString U28 U5 U9 rfl o6.rd, cF (by simp) (cF (by simp) ?_)⟩
    have h6 := h5.fr0 f6
    have d6 := d5.fr0 f6
    refine (dead_ok h6).use ?_
    rintro v w6 ⟨rfl, rfl⟩
    refine ⟨_, rfl, cF (by simp) ?_⟩
    refine (safe_ok h6).use ?_
    rintro v w6 ⟨rfl, rfl⟩
    refine ⟨_, rfl, cF (by simp) ?_⟩
    -- the copy goes on by itself
    have hB3 : W.heap.size ≤ w3.heap.size := gW.size
    have hBc : W.heap.size ≤ w4.heap.size := Nat.le_trans hB3 f4.size
    have he := h5.1
    have gW6 : Bel W.heap.size W w6 := gW.trans' ((f4.trans' (f5.trans' f6)).bel0)
    have hrow6 : RowAt W.heap.size 3 (ActQ w6 W.heap.size) A' al' := fun j x hx => by
      obtain ⟨a, ha, hb, hq⟩ := h' j x hx
      exact ⟨a, ha, hb, hq.fr (Nat.le_refl _) (by rw [add_block]; exact hb) gW6⟩
    refine (few_ok hrow6 hl' hc').use ?_
    rintro v w6 ⟨rfl, n2, d2, bs2, rfl, hbl2, hb1002, hrow2, hsmall2⟩
    refine ⟨_, _, _, rfl, ?_⟩
    refine ⟨fun s w' => ∃ (n : Nat) (D' : Dsk), s.1 = (n : Int) ∧ n ≤ n2 ∧ Bel w4.heap.size w6 w' ∧ DIn w4.heap.size w' e D', fun s _ => n2 - s.1.toNat, ⟨0, _, rfl, Nat.zero_le _, Fr.refl _ _, h6⟩, ?_⟩
    rintro J ⟨i, ⟨⟩⟩ w7 ⟨m, D', hi, hm, g7, h7⟩
    dsimp only at hi ⊢
    subst hi
    have gB7 : Bel W.heap.size w6 w7 := g7.mono fun k _ h => Nat.le_trans hBc h
    refine cD (fun hlt => ?_) (fun hlt => ?_)
    · have hx : bs2[m]? = some bs2[m] := List.getElem?_eq_getElem (by omega)
      obtain ⟨a, ha, hab, hq⟩ := hrow2 m _ hx
      obtain ⟨A1, d', q1, q2, q3, q4, q5, q6, q7, q8⟩ := hq.fr gW6.size (by rw [add_block]; exact hab) gB7
      refine ⟨a, ha, by omega, by omega, _, by rw [Int.toNat_natCast]; exact q1, _, _, _, by rw [Int.toNat_natCast]; exact q2, _, by rw [Int.toNat_natCast]; exact q3, ?_⟩
      obtain ⟨p1, p2, p3, p4, p5, p6, b8, f8⟩ := cp3 w7 36 (.int .u8 0) (.slice none 0 0) (.int .i64 0) (.int .u8 bs2[m].1) (.slice A1 bs2[m].2.1.length d') (.int .i64 bs2[m].2.2)
      refine ⟨p1, p2, p3, p4, p5, p6, ?_⟩
      generalize World.setCell _ _ _ = w8 at b8 f8 ⊢
      have h8 := h7.fr0 f8
      have g8 := g7.trans' f8.bel0
      refine ⟨_, (b8.cell 0).trans rfl, _, _, _, (b8.cell 1).trans rfl, _, (b8.cell 2).trans rfl, ?_⟩
      have he' : w4.heap.size ≤ e := he
      refine (does_ok h8 bs2[m] (c := d') (q4.fr f8 fun _ _ _ h => h) (fun k _ h => by omega) q8).use ?_
      rintro v w9 ⟨rfl, h9, f9⟩
      rw [IntWalk.i64_in ((m : Int) + 1) (by omega)]
      have hB8 : w4.heap.size ≤ w8.heap.size := Nat.le_trans f5.size (Nat.le_trans f6.size g8.size)
      exact ⟨_, rfl, ⟨m + 1, _, rfl, by omega, g8.trans' f9, DIn.of hB8 h9⟩, by dsimp only; omega⟩
    · have d7 : DiskAt w7 (bw W.heap.size w3) d D := d6.fr g7 fun k _ h hk => by
        have h2 := h.2
        have h3 : w4.heap.size ≤ k := hk
        have := f4.size
        omega
      have o7 := o4'.rd
      have hr7 : Rd w7 (fun k => k < w4.heap.size) A4 (bvs (rdB D)) := by
        have o5 : Own w6 5 1 (fun k => k < w4.heap.size) A4 (rdB D).length c4 (bvs (rdB D)) := by
          have := (o4.ok (ok' := fun k => k < w4.heap.size) fun a ha => (o4.has a ha).2)
          exact (this.fr f5 fun _ _ _ h => h).fr f6 fun _ _ _ h => h
        exact o5.rd.fr g7 fun k _ h hk => by
          have h3 : w4.heap.size ≤ k := hk
          omega
      refine (read_ok d7).use ?_
      rintro v w8 ⟨A8, c8, rfl, o8, f8⟩
      refine ⟨_, _, _, _, rfl, cT rfl ⟨_, _, run_toString U28 U5 U9 rfl (hr7.fr f8 fun _ _ _ h => h), _, _, run_toString U28 U5 U9 rfl o8.rd, cT (by simp) (cT (by simp) ?_)⟩⟩
      have d8 := d7.fr0 f8
      refine (dead_ok d8).use ?_
      rintro v w8 ⟨rfl, rfl⟩
      refine ⟨_, rfl, cT (by simp) ?_⟩
      refine (safe_ok d8).use ?_
      rintro v w8 ⟨rfl, rfl⟩
      exact ⟨_, rfl, by simp, ((gW6.trans' gB7).trans' f8.bel0).top⟩
end
end Go.Proofs
