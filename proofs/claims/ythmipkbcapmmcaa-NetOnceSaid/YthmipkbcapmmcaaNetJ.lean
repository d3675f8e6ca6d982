import Derived.Test.YthmipkbcapmmcaaNetI
set_option linter.unusedVariables false
namespace Go.Proofs
open Go Go.Eng
section
variable {W : World} {b r : Nat}
theorem look_len {L : List (List UInt8)} (i : Int) : (if (look L i).isSome then L.eraseIdx i.toNat else L).length ≤ L.length := by
  split
  · exact List.length_eraseIdx_le L _
  · exact Nat.le_refl _
theorem netPlays_ok {A : Option Addr} {l c : Nat} {al : List Act} (h : RowAt W.heap.size 3 (ActQ W W.heap.size) A al) (hl : al.length = l) (hc : l ≤ c) : Ret Try.prog 4 [.slice A l c] W (Done W) := by
  apply S4_calls
  refine (shown_ok _).use ?_
  rintro v w1 ⟨rfl, f1⟩
  refine ⟨_, rfl, ?_⟩
  refine (newB (B := W.heap.size) f1.size).use ?_
  rintro v w2 ⟨b, rfl, n2, f2⟩
  refine ⟨_, rfl, cF rfl ?_⟩
  have gg : Bel W.heap.size W w2 := f1.bel0.trans' f2.bel0
  have a0 : Fr none1 w2 (w2.alloc (.cells ⟨[.slice none 0 0]⟩ 40)) := Fr.alloc _ _
  have r2 : RefIn W.heap.size (w2.alloc (.cells ⟨[.slice none 0 0]⟩ 40)) w2.heap.size [] := ⟨⟨gg.size, by simp⟩, none, 0, Blk.new w2 40 _, Own.nil _ _ _ _⟩
  have n2' := n2.fr a0
  have g2 := gg.trans' a0.bel0
  show Calls Try.prog 10 ⟨[.slice A l c]⟩ (w2.alloc (.cells ⟨[.slice none 0 0]⟩ 40)) _
  generalize hr : w2.heap.size = r at r2
  generalize w2.alloc (.cells ⟨[.slice none 0 0]⟩ 40) = w2 at r2 n2' g2 ⊢
  have h2 : RowAt W.heap.size 3 (ActQ w2 W.heap.size) A al := fun j x hx => by
    obtain ⟨a, ha, hb, hq⟩ := h j x hx
    exact ⟨a, ha, hb, hq.fr (Nat.le_refl _) (by rw [add_block]; exact hb) g2⟩
  refine (few_ok h2 hl hc).use ?_
  rintro v w2 ⟨rfl, l', c', bs, rfl, hbl, hb100, hrow, hsmall⟩
  refine ⟨_, _, _, rfl, ?_⟩
  refine ⟨fun s w' => ∃ n : Nat, s.1 = (n : Int) ∧ n ≤ l' ∧ Bel W.heap.size w2 w' ∧ ∃ L, Both W.heap.size w' b r L, fun s _ => l' - s.1.toNat, ⟨0, rfl, Nat.zero_le _, Fr.refl _ _, [], n2', r2, by simp⟩, ?_⟩
  rintro J ⟨j, ⟨⟩⟩ w3 ⟨n, hj, hn, g3, L, hB3⟩
  dsimp only at hj ⊢
  subst hj
  have gW := g2.trans' g3
  refine cD (fun hlt => ?_) (fun hlt => ?_)
  · have hlt' : n < l' := by omega
    have hx : bs[n]? = some bs[n] := List.getElem?_eq_getElem (by omega)
    obtain ⟨a, ha, hab, hq⟩ := hrow n _ hx
    obtain ⟨A', d', q1, q2, q3, q4, q5, q6, q7⟩ := hq.fr g2.size (by rw [add_block]; exact hab) g3
    have hsm := hsmall _ (List.mem_of_getElem? hx)
    refine ⟨a, ha, by omega, by omega, _, by rw [Int.toNat_natCast]; exact q1, _, _, _, by rw [Int.toNat_natCast]; exact q2, _, by rw [Int.toNat_natCast]; exact q3, ?_⟩
    obtain ⟨p1, p2, p3, p4, p5, p6, b4, f4⟩ := cp3 w3 30 (.int .u8 0) (.slice none 0 0) (.int .i64 0) (.int .u8 bs[n].1) (.slice A' bs[n].2.1.length d') (.int .i64 bs[n].2.2)
    refine ⟨p1, p2, p3, p4, p5, p6, ?_⟩
    generalize World.setCell _ _ _ = w4 at b4 f4 ⊢
    have B4 := hB3.fr f4
    have g4 := g3.trans' f4.bel0
    have hB4 : W.heap.size ≤ w4.heap.size := (gW.trans' f4.bel0).size
    have q4' := q4.fr f4 (fun _ _ _ h => h)
    have hb3 : w3.heap.size < w4.heap.size := b4.lt
    refine ⟨_, by rw [b4.cell]; rfl, by decide, ?_⟩
    have hn1 : (n : Int) + 1 ≤ 1000 := by omega
    have fin : ∀ w5 L', Bel W.heap.size w4 w5 → Both W.heap.size w5 b r L' → (∃ m : Nat, (n : Int) + 1 = (m : Int) ∧ m ≤ l' ∧ Bel W.heap.size w2 w5 ∧ ∃ L, Both W.heap.size w5 b r L) ∧ l' - ((n : Int) + 1).toNat < l' - (n : Int).toNat :=
      fun w5 L' g5 n5 => ⟨⟨n + 1, rfl, by omega, g4.trans' g5, L', n5⟩, by omega⟩
    obtain ⟨N4, R4, hL4⟩ := B4
    have okB : ∀ k, bw W.heap.size w4 k → W.heap.size ≤ k := fun k h => h.1
    refine cD (fun h0 => ?_) (fun h0 => cD (fun h1 => ?_) (fun h1 => cD (fun h2 => ?_) (fun h2 => cD (fun h3 => ?_) (fun h3 => ?_))))
    · -- a packet is sent
      have a5 : Fr none1 w4 (w4.alloc (.cells ⟨[]⟩ 5)) := Fr.alloc _ _
      have b5 := b4.fr a5 (fun h => h)
      have lit : Own (w4.alloc (.cells ⟨[]⟩ 5)) 5 1 (from1 w4.heap.size) (some ⟨w4.heap.size, 0, none⟩) 0 0 [] := (Own.lit w4 5 1 0 [] rfl (Nat.zero_le _)).mono fun k hk h => by simp only [from1]; omega
      refine ⟨_, _, _, by rw [b5.cell]; rfl, ?_⟩
      obtain ⟨A6, c6, w6, r6, o6, f6, _⟩ := run_append (ty := 28) (m := bs[n].2.1.length) (c2 := d') E28 lit (by rw [bvs_length, Nat.mul_one]) (q4'.fr a5 fun _ _ _ h => h) (bvs_one _) (by omega) (by simp only [maxLen]; omega)
      have f6' : Fr none1 w4 w6 := a5.trans f6 fun k hk ⟨a, ha, e⟩ => by cases ha; simp only at e; omega
      have d6 : Fr none1 w6 w6.drew := Fr.drew w6
      have o7 : Own w6.drew 5 1 (fun k => w4.heap.size ≤ k ∧ k < w6.drew.heap.size) A6 (0 + bs[n].2.1.length) c6 (bvs bs[n].2.1) :=
        (o6.fr d6 fun _ _ _ h => h).mono fun k hk h => ⟨by rcases h with h | h; exact h; have := a5.size; omega, hk⟩
      have f7 := f6'.trans' d6
      have b7 := b4.fr f7 (fun h => h)
      have N7 : NetAt w6.drew (bw W.heap.size w4) b L := NetAt.fr N4 f7 (fun _ _ _ h => h)
      have R7 := R4.fr0 f7
      have q7 := q4'.fr f7 (fun _ _ _ h => h)
      refine ⟨A6, _, c6, w6, r6, ?_⟩
      generalize w6.drew = w7 at o7 f7 b7 N7 R7 q7 ⊢
      have hB7 : W.heap.size ≤ w7.heap.size := Nat.le_trans hB4 f7.size
      rw [Nat.zero_add] at o7 ⊢
      -- behind the send, whatever stands between
      have core : ∀ (w8 : World) (e : Int), Fr (netF (bw W.heap.size w4) w7) w7 w8 →
          ((1024 ≤ L.length ∧ e = 4 ∧ NetAt w8 (fun k => bw W.heap.size w4 k ∨ w7.heap.size ≤ k) b L) ∨ (L.length < 1024 ∧ e = 0 ∧ NetAt w8 (fun k => bw W.heap.size w4 k ∨ w7.heap.size ≤ k) b (L ++ [bs[n].2.1]))) →
          Calls Try.prog 15 ⟨[(.pointer (some ⟨r, 0, none⟩)), (.string (str bs[n].2.1))]⟩ w8 fun e' w9 => ∃ t : Int, e' = .returned (.int .i64 t) ∧
            S4_k3 true (some ⟨b, 0, none⟩) ⟨r, 0, none⟩ A6 bs[n].2.1.length c6 A l' c' (l' : Int) (n : Int) (!decide (e = t)) w9 (Done W) (fun s' w'' => (∃ m : Nat, s'.1 = (m : Int) ∧ m ≤ l' ∧ Bel W.heap.size w2 w'' ∧ ∃ L, Both W.heap.size w'' b r L) ∧ l' - s'.1.toNat < l' - (n : Int).toNat) := by
        intro w8 e f8 he
        have o8 := o7.fr1 f8 (fun a ha hk => by have h1 := (o7.has a ha).1; have h2 := hk.1.2; omega)
        have R8 := R7.frT f8 netF_ty (by decide) (by decide)
        have hB8 := Nat.le_trans hB7 f8.size
        have g8 : Bel W.heap.size w4 w8 := (f7.bel0).trans' (f8.bel fun k hk => hk.1.1)
        refine (ref_send R8 hB8 bs[n].2.1).use ?_
        rintro v w9 ⟨f9, t, rfl, ht⟩
        refine ⟨t, rfl, ?_⟩
        have g9 : Bel W.heap.size w4 w9 := g8.trans' (f9.bel fun k hk => hk.1.1)
        have o9 := o8.fr1 f9 (fun a ha hk => o8.notTy (by decide) a ha hk.2)
        have hA : ∀ a, A6 = some a → ¬ (bw W.heap.size w4 a.block ∨ w7.heap.size ≤ a.block) ∧ W.heap.size ≤ a.block := fun a ha => by
          have h1 := (o7.has a ha).1
          refine ⟨fun h => ?_, by omega⟩
          rcases h with h | h
          · have := h.2; omega
          · omega
        have hok : ∀ k, (bw W.heap.size w4 k ∨ w7.heap.size ≤ k) → W.heap.size ≤ k := fun k h => by
          rcases h with h | h
          · exact h.1
          · omega
        rcases he with ⟨h1, rfl, n8⟩ | ⟨h1, rfl, n8⟩
        · rcases ht with ⟨_, rfl, r9⟩ | ⟨h', _⟩
          · have n9 := n8.frT f9 refF_ty (by decide) (by decide) (by decide)
            exact plays_sent rfl o9 (bvs_u8 _) n9 r9 hL4 hA hok hn1 fun w' f' B' => fin w' _ (g9.trans' f') B'
          · omega
        · rcases ht with ⟨h', _⟩ | ⟨_, rfl, r9⟩
          · omega
          · have n9 := n8.frT f9 refF_ty (by decide) (by decide) (by decide)
            exact plays_sent rfl o9 (bvs_u8 _) n9 r9 (by simp; omega) hA hok hn1 fun w' f' B' => fin w' _ (g9.trans' f') B'
      have hts : ∀ w8, Fr (netF (bw W.heap.size w4) w7) w7 w8 → (convert 28 9 (.slice A' bs[n].2.1.length d')).run Try.prog w8 = .ok (.string (str bs[n].2.1)) w8 := fun w8 f8 =>
        run_toString U28 U5 U9 rfl (q7.fr f8 fun k hk h1 h2 => by have := h2.1.1; omega)
      refine ⟨?_, ?_⟩
      · refine (sendT N7 rfl (by omega) o7.rd).use ?_
        rintro v w8 ⟨f8, e, rfl, he⟩
        have b8 := b7.fr f8 (fun h => b7.notTy (by decide) h.2)
        exact ⟨_, rfl, _, _, _, by rw [b8.cell]; rfl, _, _, hts w8 f8, core w8 e f8 he⟩
      · refine ⟨_, _, _, by rw [b7.cell]; rfl, ?_, ?_⟩
        · refine (sendT N7 rfl (by omega) o7.rd).use ?_
          rintro v w8 ⟨f8, e, rfl, he⟩
          exact ⟨_, rfl, _, _, hts w8 f8, core w8 e f8 he⟩
        · refine ⟨_, _, hts w7 (Fr.refl _ _), ?_⟩
          refine (sendT N7 rfl (by omega) o7.rd).use ?_
          rintro v w8 ⟨f8, e, rfl, he⟩
          exact ⟨_, rfl, core w8 e f8 he⟩
    · -- one is taken
      refine ⟨_, by rw [b4.cell]; rfl, ?_⟩
      refine (takeT N4 hL4 _).use ?_
      rintro v w5 ⟨f5, ⟨A5, c5, rfl, o5⟩, N5⟩
      have b5 := b4.fr f5 (fun h => b4.notTy (by decide) h.2)
      have hB5 := Nat.le_trans hB4 f5.size
      refine ⟨_, _, _, _, rfl, _, by rw [b5.cell]; rfl, ?_⟩
      refine (ref_take (R4.frT f5 netF_ty (by decide) (by decide)) hB5 hL4 _).use ?_
      rintro v w6 ⟨f6, rfl, R6⟩
      refine ⟨_, _, rfl, ?_⟩
      have rd6 := (o5.fr1 f6 (fun a ha hk => o5.notTy (by decide) a ha hk.2)).rd
      refine ⟨_, _, run_toString U28 U5 U9 rfl rd6, cF (by simp) (cF (by simp) ?_)⟩
      have N6 := NetAt.frT N5 f6 refF_ty (by decide) (by decide) (by decide)
      have g6 : Bel W.heap.size w4 w6 := (f5.bel fun k hk => hk.1.1).trans' (f6.bel fun k hk => hk.1.1)
      have B6 : Both W.heap.size w6 b r _ := ⟨NetAt.mono N6 fun k hk h => ⟨h.1, hk⟩, R6, Nat.le_trans (look_len _) hL4⟩
      exact plays_end B6 hn1 fun w7 f7 => fin w7 _ (g6.trans' f7.bel0) (B6.fr f7)
    · -- one is looked at
      refine ⟨_, by rw [b4.cell]; rfl, ?_⟩
      refine (peekT N4 _).use ?_
      rintro v w5 ⟨⟨A5, c5, rfl, o5⟩, f5⟩
      have b5 := b4.fr f5 (fun h => h)
      refine ⟨_, _, _, _, rfl, _, by rw [b5.cell]; rfl, ?_⟩
      refine (ref_peek (R4.fr0 f5) _).use ?_
      rintro v w6 ⟨rfl, rfl⟩
      refine ⟨_, _, rfl, _, _, run_toString U28 U5 U9 rfl o5.rd, cF (by simp) ?_⟩
      refine cF (by simp) ?_
      have N6 : NetAt w6 (bw W.heap.size w4) b L := NetAt.fr N4 f5 (fun _ _ _ h => h)
      refine plays_k11 o5 (bvs_u8 _) N6 (R4.fr0 f5) hL4 (fun a ha => ?_) okB hn1 fun w' f' B' => fin w' _ (f5.bel0.trans' f') B'
      · have h1 := (o5.has a ha).1
        simp only [from1] at h1
        exact ⟨fun h => by have := h.2; omega, by omega⟩
    · -- one is lost
      refine ⟨_, by rw [b4.cell]; rfl, ?_⟩
      refine (ref_take R4 hB4 hL4 _).use ?_
      rintro v w5 ⟨f5, rfl, R5⟩
      have b5 := b4.fr f5 (fun h => b4.notTy (by decide) h.2)
      refine ⟨_, _, rfl, _, by rw [b5.cell]; rfl, ?_⟩
      refine (loseT (NetAt.frT N4 f5 refF_ty (by decide) (by decide) (by decide)) hL4 _).use ?_
      rintro v w6 ⟨f6, rfl, N6⟩
      refine ⟨_, rfl, cF (by simp) ?_⟩
      have g6 : Bel W.heap.size w4 w6 := (f5.bel fun k hk => hk.1.1).trans' (f6.bel fun k hk => hk.1.1)
      have B6 : Both W.heap.size w6 b r _ := ⟨NetAt.mono N6 fun k hk h => ⟨h.1, hk⟩, R5.frT f6 netF_ty (by decide) (by decide), Nat.le_trans (look_len _) hL4⟩
      exact plays_end B6 hn1 fun w7 f7 => fin w7 _ (g6.trans' f7.bel0) (B6.fr f7)
    · -- many are sent
      refine ⟨_, by rw [b4.cell]; rfl, by decide, ?_⟩
      have hT : Int.tmod bs[n].2.2 600 < 600 := Int.tmod_lt_of_pos _ (by decide)
      generalize Int.tmod bs[n].2.2 600 = T at hT ⊢
      refine ⟨fun s w' => ∃ i : Nat, s.1 = (i : Int) ∧ i ≤ 600 ∧ Bel W.heap.size w4 w' ∧ ∃ L, Both W.heap.size w' b r L, fun s _ => 600 - s.1.toNat, ⟨0, rfl, by omega, Fr.refl _ _, L, N4, R4, hL4⟩, ?_⟩
      rintro J ⟨i', ⟨⟩⟩ w5 ⟨i, hi, hi6, g5, L5, N5, R5, hL5⟩
      dsimp only at hi ⊢
      subst hi
      refine cD (fun hlt => ?_) (fun hlt => ?_)
      · refine (sendT N5 (xs := []) rfl (by decide) (Rd.none none1 none)).use ?_
        rintro v w6 ⟨f6, e, rfl, he⟩
        refine ⟨_, rfl, ?_⟩
        have hB6 := Nat.le_trans hB4 (Nat.le_trans g5.size f6.size)
        refine (ref_send (R5.frT f6 netF_ty (by decide) (by decide)) hB6 []).use ?_
        rintro v w7 ⟨f7, t, rfl, ht⟩
        have g7 : Bel W.heap.size w4 w7 := (g5.trans' (f6.bel fun k hk => hk.1.1)).trans' (f7.bel fun k hk => hk.1.1)
        have hB5 := Nat.le_trans hB4 g5.size
        rw [IntWalk.i64_in ((i : Int) + 1) (by omega)]
        refine ⟨_, rfl, ?_⟩
        have up : ∀ k, k < w7.heap.size → (bw W.heap.size w5 k ∨ w5.heap.size ≤ k) → bw W.heap.size w7 k := fun k hk h => ⟨by
          rcases h with h | h
          · exact h.1
          · omega, hk⟩
        rcases he with ⟨h1, rfl, n8⟩ | ⟨h1, rfl, n8⟩
        · rcases ht with ⟨_, rfl, r9⟩ | ⟨h', _⟩
          · have n9 := n8.frT f7 refF_ty (by decide) (by decide) (by decide)
            exact cF rfl ⟨⟨i + 1, rfl, by omega, g7, L5, NetAt.mono n9 up, r9, hL5⟩, by dsimp only; omega⟩
          · omega
        · rcases ht with ⟨h', _⟩ | ⟨_, rfl, r9⟩
          · omega
          · have n9 := n8.frT f7 refF_ty (by decide) (by decide) (by decide)
            exact cF rfl ⟨⟨i + 1, rfl, by omega, g7, L5 ++ [[]], NetAt.mono n9 up, r9, by simp; omega⟩, by dsimp only; omega⟩
      · exact plays_end ⟨N5, R5, hL5⟩ hn1 fun w6 f6 => fin w6 _ (g5.trans' f6.bel0) (Both.fr ⟨N5, R5, hL5⟩ f6)
  · exact ⟨rfl, gW.top⟩
end
end Go.Proofs
