import Derived.Test.YthmipkbcapmmcaaNetF
set_option linter.unusedVariables false
namespace Go.Proofs
open Go Go.Eng
theorem E38 : ElT Try.prog 38 9 1 16 := elT_of (by kernel_rfl)
theorem appB {P : Program} {t ty e : TypeId} {sz bytes : Nat} (T : ElT P t e sz bytes) {w : World} {ok2 : Nat → Prop} {B : Nat} {A A2 : Option Addr} {l c m c2 : Nat} {xs news : List Value}
    (hown : Own w e sz (bw B w) A l c xs) (hB : B ≤ w.heap.size) (hn : news.length = m * sz) (hr : Rd w ok2 A2 news) (h1 : ∀ u ∈ news, u.oneCell' = true) (hb : (l + m) * bytes ≤ 140737488355328) (hm : l + m ≤ maxLen) :
    ∃ A' c' w', (Builtin.append_ #[t, t] ty ⟨[.slice A l c, .slice A2 m c2]⟩).run P w = .ok (.slice A' (l + m) c') w' ∧ Own w' e sz (bw B w') A' (l + m) c' (xs ++ news) ∧ Fr (ownAt A) w w' ∧ Bel B w w' := by
  obtain ⟨A', c', w', h2, h3, h4, _⟩ := run_append (ty := ty) (c2 := c2) T hown hn hr h1 hb hm
  refine ⟨A', c', w', h2, h3.mono fun k hk h => ?_, h4, h4.bel fun k ⟨a, ha, hab⟩ => hab ▸ (hown.has a ha).1.1⟩
  rcases h with h | h
  · exact ⟨h.1, hk⟩
  · exact ⟨Nat.le_trans hB h, hk⟩
theorem NetIn.frO {B : Nat} {w w' : World} {b : Nat} {L : List (List UInt8)} {e sz l c : Nat} {ok : Nat → Prop} {A : Option Addr} {xs : List Value} (h : NetIn B w b L) (ho : Own w e sz ok A l c xs) (h1 : e ≠ 50) (h2 : e ≠ 28) (h3 : e ≠ 5) (hf : Fr (ownAt A) w w') : NetIn B w' b L := by
  obtain ⟨hb, D, d, vs, j1, j2, j3⟩ := h
  have up : ∀ k, k < w'.heap.size → bw B w k → bw B w' k := fun k _ hk => bw_mono hf.size hk
  refine ⟨bw_mono hf.size hb, D, d, vs, j1.fr hf (fun ⟨a, ha, hab⟩ => ho.ne_blk j1 h1 a ha hab), (j2.fr1 hf fun a ha ⟨a', ha', hab⟩ => ho.ne_own j2 h2 a' ha' ⟨a, ha, hab.symm⟩).mono up, fun i xs hi => ?_⟩
  obtain ⟨Ai, ci, h4, h5, h6⟩ := j3 i xs hi
  exact ⟨Ai, ci, h4, (h5.fr1 hf fun a ha ⟨a', ha', hab⟩ => ho.ne_own h5 h3 a' ha' ⟨a, ha, hab.symm⟩).mono up, h6⟩
theorem ownB {B : Nat} {w w' : World} {e sz l c : Nat} {A : Option Addr} {xs : List Value} (h : Own w e sz (bw B w) A l c xs) (f : Fr none1 w w') : Own w' e sz (bw B w') A l c xs :=
  (h.fr f fun _ _ _ h => h).mono fun k hk h => ⟨h.1, hk⟩
theorem NetAt.tight {w : World} {ok : Nat → Prop} {b : Nat} {L : List (List UInt8)} (h : NetAt w ok b L) : NetAt w (fun k => ok k ∧ hasTy w [50, 28, 5] k) b L := by
  obtain ⟨hb, D, d, vs, j1, j2, j3⟩ := h
  refine ⟨⟨hb, j1.hasTy (by decide)⟩, D, d, vs, j1, j2.tight (by decide), fun i xs hi => ?_⟩
  obtain ⟨Ai, ci, h4, h5, h6⟩ := j3 i xs hi
  exact ⟨Ai, ci, h4, h5.tight (by decide), h6⟩
def S (xs : List UInt8) : Value := .string (str xs)
theorem look_nat {L : List (List UInt8)} (n : Nat) : look L (n : Int) = L[n]? := by unfold look; rw [if_pos (by omega), Int.toNat_natCast]

section
variable {W : World} {b : Nat}
def Done (W : World) : Value → World → Prop := fun v w' => v = .bool true ∧ Fr none1 W w'
/-- The last loop of NetOrder. -/
theorem order_last {w : World} {L : List (List UInt8)} {A : Option Addr} {c : Nat} (hn : NetIn W.heap.size w b L) (hw : Own w 9 1 (bw W.heap.size w) A L.length c (L.map S)) (g : Bel W.heap.size W w) (hL : L.length ≤ 100) :
    S6_k10 true (some ⟨b, 0, none⟩) A L.length c w (Done W) := by
  refine (len_ok hn).use ?_
  rintro v w ⟨rfl, rfl⟩
  refine ⟨_, rfl, cF (by simp) ?_⟩
  refine ⟨fun s w' => 0 ≤ s.1 ∧ s.1 ≤ L.length ∧ Fr none1 w w', fun s _ => L.length - s.1.toNat, ⟨by simp, by simp, Fr.refl _ _⟩, ?_⟩
  rintro J ⟨i, ⟨⟩⟩ w1 ⟨h0, h1, f⟩
  dsimp only at h0 h1 ⊢
  obtain ⟨n, rfl⟩ := Int.eq_ofNat_of_zero_le h0
  have g1 := g.trans' f.bel0
  refine cD (fun hi => ?_) (fun hi => ?_)
  · have hi' : n < L.length := by omega
    have hx : L[n]? = some L[n] := List.getElem?_eq_getElem hi'
    refine (peek_ok (hn.fr f) n).use ?_
    rw [look_nat, hx]
    rintro v w2 ⟨⟨A2, c2, rfl, o2⟩, f2⟩
    refine ⟨_, _, _, _, rfl, cF rfl ?_⟩
    have q := (((hw.rd.fr f fun _ _ _ h => h).fr f2 fun _ _ _ h => h).fr (Fr.drew (F := none1) w2) fun _ _ _ h => h).at (i := n) (v := S L[n]) (by simp [hx])
    obtain ⟨a, ha, _, hc⟩ := q
    have o3 := o2.rd.fr (Fr.drew (F := none1) w2) fun _ _ _ h => h
    have hs : (convert 28 9 (.slice A2 L[n].length c2)).run Try.prog w2.drew = .ok (.string (str L[n])) w2.drew := run_toString U28 U5 U9 rfl o3
    have fin : S6_k14 true (some ⟨b, 0, none⟩) A L.length c (L.length : Int) (n : Int) (!decide (str L[n] = str L[n])) w2.drew (Done W) (fun s' w'' => (0 ≤ s'.1 ∧ s'.1 ≤ L.length ∧ Fr none1 w w'') ∧ L.length - s'.1.toNat < L.length - (n : Int).toNat) := by
      refine cF (by simp) ?_
      rw [IntWalk.i64_in ((n : Int) + 1) (by omega)]
      refine ⟨⟨by simp; omega, by simp; omega, (f.trans' f2).trans' (Fr.drew w2)⟩, by simp; omega⟩
    refine ⟨a, ha, by omega, by omega, ?_, ?_⟩
    · exact ⟨_, _, hs, _, by rw [Int.toNat_natCast, Nat.mul_one]; exact hc, fin⟩
    · exact ⟨_, by rw [Int.toNat_natCast, Nat.mul_one]; exact hc, _, _, hs, fin⟩
  · exact ⟨rfl, g1.top⟩
/-- Behind the loop that looks. -/
theorem order_mid {w : World} {L : List (List UInt8)} {A : Option Addr} {c : Nat} (i : Int) (hn : NetIn W.heap.size w b L) (hw : Own w 9 1 (bw W.heap.size w) A L.length c (L.map S)) (g : Bel W.heap.size W w) (hL : L.length ≤ 100) :
    S6_k7 i true (some ⟨b, 0, none⟩) A L.length c w (Done W) := by
  refine (take_ok (NetAt.tight hn) (by omega) i).use ?_
  intro v w1 h
  have hB : W.heap.size ≤ w.heap.size := g.size
  cases hlk : look L i with
  | none =>
    rw [hlk] at h
    obtain ⟨rfl, _, f1⟩ := h
    refine ⟨_, _, _, _, rfl, ?_⟩
    have hno : ¬ (0 ≤ i ∧ i < (L.length : Int)) := by
      intro ⟨h0, h1⟩
      obtain ⟨n, rfl⟩ := Int.eq_ofNat_of_zero_le h0
      rw [look_nat, List.getElem?_eq_none_iff] at hlk
      omega
    have last : S6_k8 i true (some ⟨b, 0, none⟩) A L.length c false false w1.drew (Done W) := by
      refine cF rfl (cF rfl ?_)
      have d1 : Fr none1 w1 w1.drew := Fr.drew w1
      exact order_last (hn.fr (f1.trans' d1)) (ownB hw (f1.trans' d1)) (g.trans' (f1.trans' d1).bel0) hL
    refine cD (fun hi => ?_) (fun hi => ?_)
    · have : ¬ i < (L.length : Int) := fun h => hno ⟨hi, h⟩
      refine cF (by simp [this]) (cF rfl ⟨last, last⟩)
    · exact cF rfl (cF rfl ⟨last, last⟩)
  | some xs =>
    rw [hlk] at h
    obtain ⟨A1, c1, rfl, o1, n1, f1⟩ := h
    refine ⟨_, _, _, _, rfl, ?_⟩
    obtain ⟨h0, hget⟩ : 0 ≤ i ∧ L[i.toNat]? = some xs := by
      unfold look at hlk
      split at hlk
      · exact ⟨‹_›, hlk⟩
      · cases hlk
    obtain ⟨n, rfl⟩ := Int.eq_ofNat_of_zero_le h0
    rw [Int.toNat_natCast] at hget n1
    have hn' : n < L.length := (List.getElem?_eq_some_iff.1 hget).1
    have d1 : Fr none1 w1 w1.drew := Fr.drew w1
    have g1 : Bel W.heap.size W w1 := g.trans' (f1.bel fun k hk => hk.1.1)
    -- what was looked at is as it was
    have hw1 : Own w1 9 1 (bw W.heap.size w1) A L.length c (L.map S) :=
      (hw.fr1 f1 fun a ha h => hw.notTy (by decide) a ha h.2).mono fun k hk h => ⟨h.1, hk⟩
    obtain ⟨a, ha, _, hc⟩ := (hw1.rd.fr d1 fun _ _ _ h => h).at (i := n) (v := S xs) (by simp [hget])
    have o3 := o1.rd.fr d1 fun _ _ _ h => h
    have hs : (convert 28 9 (.slice A1 xs.length c1)).run Try.prog w1.drew = .ok (.string (str xs)) w1.drew := run_toString U28 U5 U9 rfl o3
    have n1' : NetIn W.heap.size w1.drew b (L.eraseIdx n) := NetIn.fr (n1.mono fun k hk h => ⟨h.1.1, hk⟩) d1
    have fin : S6_k8 (n : Int) true (some ⟨b, 0, none⟩) A L.length c true (!decide (str xs = str xs)) w1.drew (Done W) := by
      refine cF (by simp) (cT rfl ?_)
      have hw2 := (ownB hw1 d1)
      have hle := hw2.le
      rw [IntWalk.i64_in ((n : Int) + 1) (by omega)]
      refine ⟨by omega, by omega, by omega, by omega, ?_⟩
      have e1 : Int.toNat (n : Int) - 0 = n := by simp
      have e2 : Int.toNat ((n : Int) + 1) = n + 1 := by omega
      rw [e1, e2, slAddr_zero, Nat.sub_zero]
      generalize w1.drew = w2 at hw2 n1' d1
      have d2 : Fr none1 w2 w2.drew := Fr.drew w2
      have a2 : Fr none1 w2.drew (w2.drew.alloc (.cells ⟨[]⟩ 9)) := Fr.alloc _ _
      have g2 : Bel W.heap.size W w2 := g1.trans' d1.bel0
      have hw3 := ownB hw2 (d2.trans' a2)
      have lit : Own (w2.drew.alloc (.cells ⟨[]⟩ 9)) 9 1 (bw W.heap.size (w2.drew.alloc (.cells ⟨[]⟩ 9))) (some ⟨w2.drew.heap.size, 0, none⟩) 0 0 [] :=
        (Own.lit w2.drew 9 1 0 [] rfl (Nat.zero_le _)).mono fun k hk h => ⟨by have := g2.size; have := d2.size; omega, hk⟩
      have g3 := g2.trans' (d2.trans' a2).bel0
      have n3 := n1'.fr (d2.trans' a2)
      have one : ∀ v ∈ L.map S, v.oneCell' = true := by
        intro v hv
        obtain ⟨x, _, rfl⟩ := List.mem_map.1 hv
        rfl
      obtain ⟨A4, c4, w4, r4, o4, f4, g4⟩ := appB (ty := 38) (m := n) (c2 := c) (news := (L.map S).take n) E38 lit g3.size (by simp; omega) (hw3.rd.take n) (fun u hu => one u (List.mem_of_mem_take hu)) (by omega) (by simp only [maxLen]; omega)
      refine ⟨A4, _, c4, w4, r4, ?_⟩
      have n4 := n3.frO lit (by decide) (by decide) (by decide) f4
      have hw4 := hw3.fr1 f4 (fun a ha ⟨a', ha', hab⟩ => by cases ha'; have h1 := (hw2.has a ha).2; have h2 := d2.size; simp only at hab; omega)
      have rd4 := hw4.rd.drop (m := c) (l := n + 1) (sz := 1) (by simp; omega)
      have g5 := g3.trans' g4
      have e3 : L.length - (n + 1) = (L.map S).length - (n + 1) := by simp
      obtain ⟨A5, c5, w5, r5, o5, f5, g6⟩ := appB (ty := 38) (m := L.length - (n + 1)) (c2 := c - (n + 1)) E38 o4 g5.size (by simp) rd4 (fun u hu => one u (List.mem_of_mem_drop hu)) (by omega) (by simp only [maxLen]; omega)
      refine ⟨A5, _, c5, w5, r5, ?_⟩
      have n5 := n4.frO o4 (by decide) (by decide) (by decide) f5
      have hsz : (L.eraseIdx n).length = 0 + n + (L.length - (n + 1)) := by rw [List.length_eraseIdx, if_pos hn']; omega
      have hxs : (L.eraseIdx n).map S = [] ++ (L.map S).take n ++ (L.map S).drop ((n + 1) * 1) := by
        rw [List.eraseIdx_eq_take_drop_succ, List.map_append, List.map_take, List.map_drop, Nat.mul_one, List.nil_append]
      rw [← hsz, ← hxs] at o5
      rw [← hsz]
      exact order_last n5 o5 (g5.trans' g6) (by rw [hsz]; omega)
    refine cT (by simp) (cF (by simp [hn']) (cT rfl ?_))
    refine ⟨a, ha, by omega, by omega, ?_, ?_⟩
    · exact ⟨_, _, hs, _, by rw [Int.toNat_natCast, Nat.mul_one]; exact hc, fin⟩
    · exact ⟨_, by rw [Int.toNat_natCast, Nat.mul_one]; exact hc, _, _, hs, fin⟩
/-- The loop that looks. -/
theorem order_look {w : World} {L : List (List UInt8)} (i : Int) (hn : NetIn W.heap.size w b L) (g : Bel W.heap.size W w) (hL : L.length ≤ 100) :
    S6_k3 i true (some ⟨b, 0, none⟩) w (Done W) := by
  refine (len_ok hn).use ?_
  rintro v w ⟨rfl, rfl⟩
  refine ⟨_, rfl, ?_⟩
  refine ⟨fun s w' => ∃ n : Nat, s.2.1 = (n : Int) ∧ n ≤ L.length ∧ s.1.2.1 = n ∧ NetIn W.heap.size w' b L ∧ Bel W.heap.size W w' ∧ Own w' 9 1 (bw W.heap.size w') s.1.1 n s.1.2.2 ((L.take n).map S), fun s _ => L.length - s.2.1.toNat,
    ⟨0, rfl, Nat.zero_le _, rfl, hn, g, Own.nil _ _ _ _⟩, ?_⟩
  rintro J ⟨⟨A, l, c⟩, i', ⟨⟩⟩ w1 ⟨n, hi, hle, hl, n1, g1, o1⟩
  dsimp only at hi hl o1 ⊢
  subst hi hl
  rw [if_neg (by omega)]
  refine cD (fun hlt => ?_) (fun hlt => ?_)
  · have hlt' : l < L.length := by omega
    have hx : L[l]? = some L[l] := List.getElem?_eq_getElem hlt'
    refine (peek_ok n1 l).use ?_
    rw [look_nat, hx]
    rintro v w2 ⟨⟨A2, c2, rfl, o2⟩, f2⟩
    refine ⟨_, _, _, _, rfl, cF rfl ?_⟩
    refine ⟨_, _, run_toString U28 U5 U9 rfl o2.rd, ?_⟩
    have a2 : Fr none1 w2 (w2.alloc (.cells ⟨[.string (str L[l])]⟩ 9)) := Fr.alloc _ _
    have f3 := f2.trans' a2
    have lit := Own.lit w2 9 1 1 [.string (str L[l])] rfl (by simp [maxLen])
    have g3 := g1.trans' f3.bel0
    obtain ⟨A', c', w3, r3, o3, f4, g4⟩ := appB (ty := 38) (m := 1) (c2 := 1) E38 (ownB o1 f3) g3.size rfl lit.rd (fun u hu => by simp at hu; subst hu; rfl) (by omega) (by simp only [maxLen]; omega)
    refine ⟨A', _, c', w3, r3, ⟨l + 1, ?_, by omega, rfl, (n1.fr f3).frO (ownB o1 f3) (by decide) (by decide) (by decide) f4, g3.trans' g4, ?_⟩, ?_⟩
    · rw [IntWalk.i64_in _ (by omega)]; simp
    · rw [List.take_add_one, hx, List.map_append]; exact o3
    · rw [IntWalk.i64_in _ (by omega)]; simp; omega
  · have : l = L.length := by omega
    subst this
    rw [List.take_length] at o1
    exact order_mid i n1 o1 g1 hL
theorem netOrder_ok {A : Option Addr} {l c : Nat} {al : List Act} (h : RowAt W.heap.size 3 (ActQ W W.heap.size) A al) (hl : al.length = l) (hc : l ≤ c) (i : Int) : Ret Try.prog 6 [.slice A l c, .int .i64 i] W (Done W) := by
  apply S6_calls
  refine (shown_ok _).use ?_
  rintro v w1 ⟨rfl, f1⟩
  refine ⟨_, rfl, ?_⟩
  refine (newB (B := W.heap.size) f1.size).use ?_
  rintro v w2 ⟨b, rfl, n2, f2⟩
  refine ⟨_, rfl, cF rfl ?_⟩
  have g2 : Bel W.heap.size W w2 := f1.bel0.trans' f2.bel0
  have h2 : RowAt W.heap.size 3 (ActQ w2 W.heap.size) A al := fun j x hx => by
    obtain ⟨a, ha, hb, hq⟩ := h j x hx
    exact ⟨a, ha, hb, hq.fr (Nat.le_refl _) (by rw [add_block]; exact hb) g2⟩
  refine (few_ok h2 hl hc).use ?_
  rintro v w2 ⟨rfl, l', c', bs, rfl, hbl, hb100, hrow, hsmall⟩
  refine ⟨_, _, _, rfl, ?_⟩
  refine ⟨fun s w' => ∃ n : Nat, s.1 = (n : Int) ∧ n ≤ l' ∧ Bel W.heap.size w2 w' ∧ ∃ L, L.length ≤ n ∧ NetIn W.heap.size w' b L, fun s _ => l' - s.1.toNat, ⟨0, rfl, Nat.zero_le _, Fr.refl _ _, [], Nat.le_refl _, n2⟩, ?_⟩
  rintro J ⟨j, ⟨⟩⟩ w3 ⟨n, hj, hn, g3, L, hL, n3⟩
  dsimp only at hj ⊢
  subst hj
  have gW := g2.trans' g3
  refine cD (fun hlt => ?_) (fun hlt => ?_)
  · have hlt' : n < l' := by omega
    have hx : bs[n]? = some bs[n] := List.getElem?_eq_getElem (by omega)
    obtain ⟨a, ha, hab, hq⟩ := hrow n _ hx
    obtain ⟨A', d', q1, q2, q3, q4, q5, q6, q7⟩ := hq.fr g2.size (by rw [add_block]; exact hab) g3
    have hsm := hsmall _ (List.mem_of_getElem? hx)
    refine ⟨a, ha, by omega, by omega, _, by rw [Int.toNat_natCast]; exact q1, _, _, _, by rw [Int.toNat_natCast]; exact q2, _, by rw [Int.toNat_natCast]; exact q3, ?_⟩
    obtain ⟨p1, p2, p3, p4, p5, p6, b4, f4⟩ := cp3 w3 30 (.int .u8 0) (.slice none 0 0) (.int .i64 0) (.int .u8 bs[n].1) (.slice A' bs[n].2.1.length d') (.int .i64 bs[n].2.2)
    refine ⟨p1, p2, p3, p4, p5, p6, ?_⟩
    generalize World.setCell _ _ _ = w4 at b4 f4 ⊢
    have n4 := n3.fr f4
    have g4 := g3.trans' f4.bel0
    refine ⟨_, by rw [b4.cell]; rfl, by decide, ?_⟩
    rw [IntWalk.i64_in ((n : Int) + 1) (by omega)]
    have fin : ∀ w5 L', Bel W.heap.size w4 w5 → L'.length ≤ n + 1 → NetIn W.heap.size w5 b L' → (∃ m : Nat, (n : Int) + 1 = (m : Int) ∧ m ≤ l' ∧ Bel W.heap.size w2 w5 ∧ ∃ L, L.length ≤ m ∧ NetIn W.heap.size w5 b L) ∧ l' - ((n : Int) + 1).toNat < l' - (n : Int).toNat :=
      fun w5 L' g5 h5 n5 => ⟨⟨n + 1, rfl, by omega, g4.trans' g5, L', h5, n5⟩, by omega⟩
    have hB4 := (gW.trans' f4.bel0).size
    have take_len : ∀ k : Nat, (L.eraseIdx k).length ≤ n + 1 := fun k => by have := List.length_eraseIdx_le L k; omega
    refine cD (fun h0 => ?_) (fun h0 => cD (fun h1 => ?_) (fun h1 => cD (fun h3 => ?_) (fun h3 => ?_)))
    · refine ⟨_, _, _, by rw [b4.cell]; rfl, ?_⟩
      refine (sendB n4 hB4 (xs := bs[n].2.1) rfl (by omega) (q4.fr f4 fun _ _ _ h => h)).use ?_
      rintro v w5 ⟨g5, e, rfl, ⟨_, rfl, n5⟩ | ⟨_, rfl, n5⟩⟩
      · exact ⟨_, rfl, fin _ _ g5 (by omega) n5⟩
      · exact ⟨_, rfl, fin _ _ g5 (by simp; omega) n5⟩
    · refine ⟨_, by rw [b4.cell]; rfl, ?_⟩
      refine (takeB n4 (by omega) _).use ?_
      rintro v w5 ⟨g5, h5⟩
      split at h5
      · obtain ⟨_, _, rfl, _, n5⟩ := h5
        exact ⟨_, _, _, _, rfl, fin _ _ g5 (take_len _) n5⟩
      · obtain ⟨rfl, n5⟩ := h5
        exact ⟨_, _, _, _, rfl, fin _ _ g5 (by omega) n5⟩
    · refine ⟨_, by rw [b4.cell]; rfl, ?_⟩
      refine (loseB n4 (by omega) _).use ?_
      rintro v w5 ⟨g5, h5⟩
      split at h5
      · obtain ⟨rfl, n5⟩ := h5
        exact ⟨_, rfl, fin _ _ g5 (take_len _) n5⟩
      · obtain ⟨rfl, n5⟩ := h5
        exact ⟨_, rfl, fin _ _ g5 (by omega) n5⟩
    · exact fin _ _ (Fr.refl _ _) (by omega) n4
  · exact order_look i n3 gW (by omega)
end
end Go.Proofs
