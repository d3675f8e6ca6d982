import Derived.Test.YtmhjjhpgbafjpaaStop
import Derived.Test.YtmhjjhpgbafjpaaHp6
set_option linter.unusedVariables false
namespace Go.Proofs
open Go Go.Eng
theorem Enb : ElT Try.prog 36 5 1 1 := elT_of (by kernel_rfl)
theorem Enr : ElT Try.prog 26 36 1 24 := elT_of (by kernel_rfl)
theorem Znb (w : World) : (zeroValue 36).run Try.prog w = .ok (.slice none 0 0) w := by kernel_rfl
/-- slices.Clone of bytes. -/
theorem nclone_ok {A : Option Addr} {l c : Nat} {w : World} {ok : Nat → Prop} {xs : List UInt8} (hl : xs.length = l) (hb : xs.length ≤ 140737488351232) (h : Rd w ok A (bvs xs)) :
    Ret Try.prog 59 [.slice A l c] w fun v w' => ∃ A' c', v = .slice A' l c' ∧ Own w' 5 1 (from1 w.heap.size) A' l c' (bvs xs) ∧ Fr none1 w w' := by
  apply S59_calls
  refine cB (fun hn => ?_) (fun hn => ?_)
  · cases A with
    | some a => cases hn
    | none =>
      rcases h with h | ⟨a, ha, _⟩
      · have : xs = [] := by simpa [bvs] using h
        subst this; simp at hl; subst hl
        exact ⟨none, 0, rfl, Own.nil _ _ _ _, Fr.refl _ _⟩
      · cases ha
  · have h1 := Own.lit w 5 1 0 [] rfl (Nat.zero_le _)
    have h2 : Rd (w.alloc (.cells ⟨[]⟩ 5)) (fun k => k < w.heap.size ∧ ok k) A (bvs xs) := (h.mono (ok' := fun k => k < w.heap.size ∧ ok k) fun k hk ho => ⟨hk, ho⟩).fr (Fr.alloc (F := none1) _ _) fun _ _ _ h => h
    obtain ⟨A', c', w', hr, ho, hf, _⟩ := run_append (ty := 36) (c2 := c) Enb h1 (by rw [bvs_length, hl, Nat.mul_one]) h2 (bvs_one xs) (by omega) (by simp only [maxLen]; omega)
    refine ⟨A', 0 + l, c', w', hr, A', c', by rw [Nat.zero_add], ?_, ?_⟩
    · rw [Nat.zero_add] at ho
      refine ho.mono fun k _ hk => ?_
      rcases hk with hk | hk
      · exact Nat.le_of_eq hk.symm
      · simp at hk; simp only [from1]; omega
    · refine (Fr.alloc (F := none1) w _).trans hf fun k hk h => ?_
      obtain ⟨a, ha, rfl⟩ := h; cases ha; exact absurd hk (Nat.lt_irrefl _)

/-- What a net holds. -/
def NetAt (w : World) (ok : Nat → Prop) (b : Nat) (L : List (List UInt8)) : Prop :=
  ok b ∧ ∃ (A : Option Addr) (c : Nat) (vs : List Value), Blk w b 111 [.slice A L.length c] ∧ Own w 36 1 ok A L.length c vs ∧ ∀ (i : Nat) (xs : List UInt8), L[i]? = some xs → ∃ (Ai : Option Addr) (ci : Nat), vs[i]? = some (Value.slice Ai xs.length ci) ∧ Own w 5 1 ok Ai xs.length ci (bvs xs) ∧ xs.length ≤ 140737488351232
theorem NetAt.fr {F : Nat → Prop} {w w' : World} {ok : Nat → Prop} {b : Nat} {L : List (List UInt8)} (h : NetAt w ok b L) (hf : Fr F w w') (hd : ∀ k, k < w.heap.size → ok k → ¬ F k) : NetAt w' ok b L := by
  obtain ⟨hb, A, c, vs, h1, h2, h3⟩ := h
  exact ⟨hb, A, c, vs, h1.fr hf (hd b h1.lt hb), h2.fr hf hd, fun i xs hi => by obtain ⟨Ai, ci, h4, h5, h6⟩ := h3 i xs hi; exact ⟨Ai, ci, h4, h5.fr hf hd, h6⟩⟩
theorem NetAt.mono {w : World} {ok ok' : Nat → Prop} {b : Nat} {L : List (List UInt8)} (h : NetAt w ok b L) (hk : ∀ k, k < w.heap.size → ok k → ok' k) : NetAt w ok' b L := by
  obtain ⟨hb, A, c, vs, h1, h2, h3⟩ := h
  exact ⟨hk b h1.lt hb, A, c, vs, h1, h2.mono hk, fun i xs hi => by obtain ⟨Ai, ci, h4, h5, h6⟩ := h3 i xs hi; exact ⟨Ai, ci, h4, h5.mono hk, h6⟩⟩
def look (L : List (List UInt8)) (i : Int) : Option (List UInt8) := if 0 ≤ i then L[i.toNat]? else none
theorem nnew_ok (w : World) : Ret Try.prog 17 [] w fun v w' => v = .pointer (some ⟨w.heap.size, 0, none⟩) ∧ NetAt w' (from1 w.heap.size) w.heap.size [] ∧ Fr none1 w w' := by
  apply S17_calls
  refine ⟨rfl, ⟨Nat.le_refl _, none, 0, [], Blk.new w 111 _, Own.nil _ _ _ _, fun i xs h => by simp at h⟩, Fr.alloc _ _⟩
theorem nhas_ok {A : Option Addr} {l c : Nat} {i : Int} {w : World} : Ret Try.prog 63 [.slice A l c, .int .i64 i] w fun v w' => v = .bool (decide (0 ≤ i ∧ i < (l : Int))) ∧ w' = w := by
  apply S63_calls
  refine cD (fun h => ?_) (fun h => ?_)
  · exact ⟨by simp [h], rfl⟩
  · exact ⟨by simp [h], rfl⟩
theorem npeek_ok {w : World} {ok : Nat → Prop} {b : Nat} {L : List (List UInt8)} (h : NetAt w ok b L) (i : Int) : Ret Try.prog 32 [.pointer (some ⟨b, 0, none⟩), .int .i64 i] w fun v w' =>
    (match look L i with
      | some xs => ∃ A' c', v = .tuple ⟨[Value.slice A' xs.length c', .bool true]⟩ ∧ Own w' 5 1 (from1 w.heap.size) A' xs.length c' (bvs xs)
      | none => v = .tuple ⟨[Value.slice none 0 0, .bool false]⟩) ∧ Fr none1 w w' := by
  obtain ⟨hb, A, c, vs, h1, h2, h3⟩ := h
  apply S32_calls
  refine cF rfl ⟨_, rfl, A, L.length, c, by rw [h1.cell]; rfl, ?_⟩
  refine nhas_ok.use ?_
  rintro v w' ⟨rfl, rfl⟩
  refine ⟨_, rfl, ?_⟩
  refine cB (fun hc => ?_) (fun hc => ?_)
  · have : look L i = none := by
      simp only [Bool.not_eq_true', decide_eq_false_iff_not] at hc
      unfold look
      split
      · rename_i h0
        rw [List.getElem?_eq_none]; omega
      · rfl
    rw [this]
    exact ⟨rfl, Fr.refl _ _⟩
  · simp only [Bool.not_eq_false', decide_eq_true_eq] at hc
    obtain ⟨h0, hlt⟩ := hc
    obtain ⟨n, rfl⟩ := Int.eq_ofNat_of_zero_le h0
    have hn : n < L.length := by omega
    have hL : L[n]? = some L[n] := List.getElem?_eq_getElem hn
    have hlook : look L (n : Int) = some L[n] := by unfold look; rw [if_pos h0, Int.toNat_natCast, hL]
    obtain ⟨Ai, ci, h4, h5, h6⟩ := h3 n _ hL
    obtain ⟨a, ha, hoka, hcell⟩ := h2.rd.at h4
    refine ⟨_, rfl, A, L.length, c, by rw [h1.cell]; rfl, a, ha, h0, hlt, Ai, L[n].length, ci, by rw [Int.toNat_natCast, Nat.mul_one]; exact hcell, ?_⟩
    refine (nclone_ok rfl h6 h5.rd).use ?_
    rintro v w' ⟨A', c', rfl, h7, h8⟩
    rw [hlook]
    exact ⟨A', _, c', rfl, ⟨A', c', rfl, h7⟩, h8⟩
/-- slices.Delete of one packet. -/
theorem ndelete_ok {w : World} {ok : Nat → Prop} {A : Option Addr} {l c : Nat} {vs : List Value} (h : Own w 36 1 ok A l c vs) (hv : ∀ v ∈ vs, v.oneCell' = true) (hl : l ≤ 1024) {n : Nat} (hn : n < l) : Ret Try.prog 62 [.slice A l c, .int .i64 (n : Int), .int .i64 ((n : Int) + 1)] w fun v w' =>
    v = .slice A (l - 1) c ∧ Own w' 36 1 ok A (l - 1) c (vs.eraseIdx n) ∧ Fr (ownAt A) w w' := by
  have hlc := h.le
  apply S62_calls
  refine ⟨by omega, by omega, by omega, by simp; omega, by omega, by simp; omega, ?_⟩
  refine cD (fun e => by omega) (fun _ => ?_)
  refine ⟨by omega, by omega, by omega, by omega, ?_⟩
  have e1 : Int.toNat (n : Int) - 0 = n := by simp
  have e2 : Int.toNat ((n : Int) + 1) = n + 1 := by omega
  have e3 : Int.toNat (l : Int) = l := by simp
  rw [e1, e2, slAddr_zero, Nat.sub_zero]
  have ht := (h.take (n := n) (by omega)).fr (Fr.drew (F := none1) w) fun _ _ _ h => h
  have hlen := h.1
  have hd : Rd w.drew ok (slAddr A c (n + 1) 1) (vs.drop ((n + 1) * 1)) := (h.rd.drop (m := c) (l := n + 1) (by omega)).fr (Fr.drew (F := none1) w) fun _ _ _ h => h
  obtain ⟨A', c', w', hr, ho, hf, hroom⟩ := run_append (ty := 26) (m := l - (n + 1)) (c2 := c - (n + 1)) Enr ht (by rw [List.length_drop]; omega) hd (fun u hu => hv u (List.mem_of_mem_drop hu)) (by omega) (by simp only [maxLen]; omega)
  obtain ⟨rfl, rfl⟩ := hroom (by omega)
  have hl1 : n + (l - (n + 1)) = l - 1 := by omega
  rw [hl1] at hr ho
  have hx : vs.take (n * 1) ++ vs.drop ((n + 1) * 1) = vs.eraseIdx n := by rw [Nat.mul_one, Nat.mul_one, List.eraseIdx_eq_take_drop_succ]
  rw [hx] at ho
  obtain ⟨w2, hr2, ho2, hf2⟩ := run_clear (ty := 0) (n := l) Enr.ut Znb rfl rfl (ho.ok fun a ha => (h.has a ha).1) (by omega) hlc
  have e4 : Int.toNat ((l - 1 : Nat) : Int) = l - 1 := by simp
  refine ⟨A', _, c', w', hr, by omega, by omega, by omega, by omega, ?_⟩
  rw [e4, e3]
  exact ⟨w2, hr2, rfl, ho2, (Fr.drew w).trans' (hf.trans' hf2)⟩
theorem ntake_ok {w : World} {ok : Nat → Prop} {b : Nat} {L : List (List UInt8)} (h : NetAt w ok b L) (hL : L.length ≤ 1024) (i : Int) : Ret Try.prog 31 [.pointer (some ⟨b, 0, none⟩), .int .i64 i] w fun v w' =>
    match look L i with
      | some xs => ∃ A' c', v = .tuple ⟨[Value.slice A' xs.length c', .bool true]⟩ ∧ Own w' 5 1 (from1 w.heap.size) A' xs.length c' (bvs xs) ∧ NetAt w' ok b (L.eraseIdx i.toNat) ∧ Fr ok w w'
      | none => v = .tuple ⟨[Value.slice none 0 0, .bool false]⟩ ∧ NetAt w' ok b L ∧ Fr none1 w w' := by
  apply S31_calls
  refine (npeek_ok h i).use ?_
  rintro v w1 ⟨hv, hf1⟩
  cases hlk : look L i with
  | none =>
    rw [hlk] at hv
    subst hv
    exact ⟨none, 0, 0, false, rfl, rfl, h.fr hf1 fun _ _ _ h => h, hf1⟩
  | some xs =>
    rw [hlk] at hv
    obtain ⟨A', c', rfl, hown⟩ := hv
    refine ⟨A', _, c', true, rfl, ?_⟩
    have hi : 0 ≤ i ∧ L[i.toNat]? = some xs := by
      unfold look at hlk
      split at hlk
      · exact ⟨‹_›, hlk⟩
      · cases hlk
    obtain ⟨h0, hget⟩ := hi
    obtain ⟨n, rfl⟩ := Int.eq_ofNat_of_zero_le h0
    rw [Int.toNat_natCast] at hget ⊢
    have hn : n < L.length := (List.getElem?_eq_some_iff.1 hget).1
    obtain ⟨hb, A, c, vs, j1, j2, j3⟩ := h
    have nF : ∀ k, k < w.heap.size → ok k → ¬ none1 k := fun _ _ _ h => h
    have k1 := j1.fr hf1 (fun h => h)
    have k2 := j2.fr hf1 nF
    have hlen := k2.1
    have one : ∀ v ∈ vs, v.oneCell' = true := by
      intro v hv
      obtain ⟨j, hj, rfl⟩ := List.mem_iff_getElem.1 hv
      have hj' : j < L.length := by omega
      obtain ⟨Ai, ci, h4, _⟩ := j3 j _ (List.getElem?_eq_getElem hj')
      rw [List.getElem?_eq_getElem hj] at h4
      rw [Option.some.inj h4]; rfl
    have hw : IntKind.i64.wrap ((n : Int) + 1) = (n : Int) + 1 := IntWalk.i64_in _ (by omega)
    refine ⟨_, rfl, A, L.length, c, by rw [k1.cell]; rfl, ?_⟩
    rw [hw]
    refine (ndelete_ok k2 one hL hn).use ?_
    rintro v w2 ⟨rfl, ho2, hf2⟩
    have hne : ¬ ownAt A b := fun ⟨a, ha, hab⟩ => k2.ne_blk k1 (by decide) a ha hab
    have k1' := k1.fr hf2 hne
    refine ⟨A, _, c, rfl, _, rfl, ⟨_, by rw [k1'.cell]; rfl⟩, k1'.free 0, A', c', rfl, ?_, ?_, ?_⟩
    all_goals have hs : Fr (fun k => k = b) w2 (w2.setCell ⟨b, 0, none⟩ (.slice A (L.length - 1) c)) := Fr.setCell (F := fun k => k = b) w2 rfl _
    · refine (hown.fr1 hf2 ?_).fr1 hs ?_
      · rintro a ha ⟨a', ha', hab⟩
        have := (j2.has a' ha').2
        have := (hown.has a ha).1
        simp only [from1] at this
        omega
      · intro a ha hab
        have := (hown.has a ha).1
        have := j1.lt
        simp only [from1] at *
        omega
    · have hsz : (L.eraseIdx n).length = L.length - 1 := by rw [List.length_eraseIdx]; simp [hn]
      refine ⟨hb, A, c, vs.eraseIdx n, ?_, ?_, ?_⟩
      · rw [hsz]; exact k1'.set 0 _
      · rw [hsz]; exact ho2.fr1 hs (fun a ha hab => ho2.ne_blk k1' (by decide) a ha hab)
      · intro i xs hi
        rw [List.getElem?_eraseIdx] at hi
        rw [List.getElem?_eraseIdx]
        have base : ∀ (i : Nat), L[i]? = some xs → ∃ (Ai : Option Addr) (ci : Nat), vs[i]? = some (Value.slice Ai xs.length ci) ∧ Own (w2.setCell ⟨b, 0, none⟩ (.slice A (L.length - 1) c)) 5 1 ok Ai xs.length ci (bvs xs) ∧ xs.length ≤ 140737488351232 := by
          intro i hi
          obtain ⟨Ai, ci, h4, h5, h6⟩ := j3 i xs hi
          have h51 := h5.fr hf1 nF
          have h52 := h51.fr1 hf2 (fun a ha ⟨a', ha', hab⟩ => h51.ne_own k2 (by decide) a ha ⟨a', ha', hab⟩)
          exact ⟨Ai, ci, h4, h52.fr1 hs (fun a ha hab => h52.ne_blk k1' (by decide) a ha hab), h6⟩
        split at hi
        · rw [if_pos ‹_›]; exact base _ hi
        · rw [if_neg ‹_›]; exact base _ hi
    · exact (hf1.mono fun _ _ h => h.elim).trans' ((hf2.mono fun k _ ⟨a, ha, hab⟩ => hab ▸ (j2.has a ha).1).trans' (hs.mono fun k _ hk => hk ▸ hb))
theorem nsend_ok {w : World} {ok ok2 : Nat → Prop} {b : Nat} {L : List (List UInt8)} (h : NetAt w ok b L) {A : Option Addr} {l c : Nat} {xs : List UInt8} (hl : xs.length = l) (hb : xs.length ≤ 140737488351232) (hr : Rd w ok2 A (bvs xs)) :
    Ret Try.prog 22 [.pointer (some ⟨b, 0, none⟩), .slice A l c] w fun v w' =>
      (1024 ≤ L.length ∧ v = .int .i64 4 ∧ w' = w) ∨ (L.length < 1024 ∧ v = .int .i64 0 ∧ NetAt w' (fun k => ok k ∨ w.heap.size ≤ k) b (L ++ [xs]) ∧ Fr ok w w') := by
  obtain ⟨hb0, B, d, vs, j1, j2, j3⟩ := h
  apply S22_calls
  refine cF rfl ⟨_, rfl, B, L.length, d, by rw [j1.cell]; rfl, ?_⟩
  refine cD (fun hc => ?_) (fun hc => ?_)
  · exact .inl ⟨by omega, rfl, rfl⟩
  have nF : ∀ {w : World}, ∀ k, k < w.heap.size → ok k → ¬ none1 k := fun _ _ _ h => h
  have d0 : Fr none1 w w.drew := Fr.drew w
  have i1 := j1.fr d0 (fun h => h)
  have i2 := j2.fr d0 nF
  -- what follows the clone, whichever comes first
  have fin : ∀ (w1 : World) (A' : Option Addr) (c' : Nat), Own w1 5 1 (from1 w.heap.size) A' l c' (bvs xs) → Fr none1 w.drew w1 →
      ∃ (t23_a : Option Addr) (t23_l : Nat) (t23_c : Nat) (w_ : World),
        (Builtin.append_ #[26, 26] 26 ⟨[(.slice B L.length d), (.slice (some ⟨w1.heap.size, 0, none⟩) 1 1)]⟩).run Try.prog (w1.alloc (.cells ⟨[(.slice A' l c')]⟩ 36)) = .ok (.slice t23_a t23_l t23_c) w_ ∧
        ∃ (t24 : Addr), some (⟨b, 0, none⟩ : Addr) = some t24 ∧ (∃ u, w_.cell? t24 = some u) ∧ w_.frozen? t24 = false ∧
        ((1024 ≤ L.length ∧ Value.int .i64 0 = .int .i64 4 ∧ (w_.setCell t24 (.slice t23_a t23_l t23_c)) = w) ∨ (L.length < 1024 ∧ Value.int .i64 0 = .int .i64 0 ∧ NetAt (w_.setCell t24 (.slice t23_a t23_l t23_c)) (fun k => ok k ∨ w.heap.size ≤ k) b (L ++ [xs]) ∧ Fr ok w (w_.setCell t24 (.slice t23_a t23_l t23_c)))) := by
    intro w1 A' c' hown hf1
    have a0 : Fr none1 w1 (w1.alloc (.cells ⟨[(.slice A' l c')]⟩ 36)) := Fr.alloc _ _
    have k2 := (i2.fr hf1 nF).fr a0 nF
    have k1 := (i1.fr hf1 (fun h => h)).fr a0 (fun h => h)
    have lit := Own.lit w1 36 1 1 [.slice A' l c'] rfl (by simp [maxLen])
    obtain ⟨B', d', w2, hrun, ho, hf2, _⟩ := run_append (ty := 26) (m := 1) (c2 := 1) Enr k2 rfl lit.rd (by intro u hu; simp at hu; subst hu; rfl) (by omega) (by simp only [maxLen]; omega)
    have hneB : ¬ ownAt B b := fun ⟨a, ha, hab⟩ => k2.ne_blk k1 (by decide) a ha hab
    have k1' := k1.fr hf2 hneB
    refine ⟨B', _, d', w2, hrun, _, rfl, ⟨_, by rw [k1'.cell]; rfl⟩, k1'.free 0, .inr ⟨by omega, rfl, ?_, ?_⟩⟩
    all_goals have hs : Fr (fun k => k = b) w2 (w2.setCell ⟨b, 0, none⟩ (.slice B' (L.length + 1) d')) := Fr.setCell (F := fun k => k = b) w2 rfl _
    all_goals have hsz : w.heap.size ≤ w1.heap.size := hf1.size
    · have hlen : (L ++ [xs]).length = L.length + 1 := by simp
      refine ⟨.inl hb0, B', d', vs ++ [.slice A' l c'], ?_, ?_, ?_⟩
      · rw [hlen]; exact k1'.set 0 _
      · rw [hlen]
        refine (ho.fr1 hs (fun a ha hab => ho.ne_blk k1' (by decide) a ha hab)).mono fun k _ hk => ?_
        rcases hk with hk | hk
        · exact .inl hk
        · right; simp at hk; omega
      · have carry : ∀ {ok' : Nat → Prop} {Ai : Option Addr} {li ci : Nat} {ys : List Value}, Own w1 5 1 ok' Ai li ci ys → Own (w2.setCell ⟨b, 0, none⟩ (.slice B' (L.length + 1) d')) 5 1 ok' Ai li ci ys := by
          intro ok' Ai li ci ys h5
          have h51 := h5.fr a0 (fun _ _ _ h => h)
          have h52 := h51.fr1 hf2 (fun a ha ⟨a', ha', hab⟩ => h51.ne_own k2 (by decide) a ha ⟨a', ha', hab⟩)
          exact h52.fr1 hs (fun a ha hab => h52.ne_blk k1' (by decide) a ha hab)
        have hvl := j2.1
        intro i ys hi
        rw [List.getElem?_append] at hi ⊢
        by_cases hil : i < L.length
        · rw [if_pos hil] at hi
          rw [if_pos (by omega)]
          obtain ⟨Ai, ci, h4, h5, h6⟩ := j3 i ys hi
          exact ⟨Ai, ci, h4, (carry ((h5.fr d0 nF).fr hf1 nF)).mono fun k _ hk => .inl hk, h6⟩
        · rw [if_neg hil] at hi
          rw [if_neg (by omega)]
          have hi0 : i - L.length = 0 := by
            have := (List.getElem?_eq_some_iff.1 hi).1; simp at this; omega
          rw [hi0] at hi
          have hvi : i - vs.length = 0 := by omega
          rw [hvi]
          simp at hi; subst hi; subst hl
          exact ⟨A', c', rfl, (carry hown).mono fun k _ hk => .inr hk, hb⟩
    · refine ((d0.trans' hf1).mono fun _ _ h => h.elim).trans' ((a0.mono fun _ _ h => h.elim).trans' ((hf2.mono fun k _ ⟨a, ha, hab⟩ => hab ▸ (k2.has a ha).1).trans' (hs.mono fun k _ hk => hk ▸ hb0)))
  have hr' := hr.fr d0 (fun _ _ _ h => h)
  refine ⟨_, rfl, ⟨B, L.length, d, by rw [i1.cell]; rfl, ?_⟩, ?_⟩
  · refine (nclone_ok hl hb hr').use ?_
    rintro v w1 ⟨A', c', rfl, hown, hf1⟩
    exact ⟨A', l, c', rfl, fin w1 A' c' hown hf1⟩
  · refine (nclone_ok hl hb hr').use ?_
    rintro v w1 ⟨A', c', rfl, hown, hf1⟩
    have i1' := i1.fr hf1 (fun h => h)
    exact ⟨A', l, c', rfl, B, L.length, d, by rw [i1'.cell]; rfl, fin w1 A' c' hown hf1⟩
theorem nlose_ok {w : World} {ok : Nat → Prop} {b : Nat} {L : List (List UInt8)} (h : NetAt w ok b L) (hL : L.length ≤ 1024) (i : Int) : Ret Try.prog 33 [.pointer (some ⟨b, 0, none⟩), .int .i64 i] w fun v w' =>
    match look L i with
      | some xs => v = .bool true ∧ NetAt w' ok b (L.eraseIdx i.toNat) ∧ Fr ok w w'
      | none => v = .bool false ∧ NetAt w' ok b L ∧ Fr none1 w w' := by
  apply S33_calls
  refine (ntake_ok h hL i).use ?_
  intro v w1 hv
  cases hlk : look L i with
  | none => rw [hlk] at hv; obtain ⟨rfl, h1, h2⟩ := hv; exact ⟨none, 0, 0, false, rfl, rfl, h1, h2⟩
  | some xs => rw [hlk] at hv; obtain ⟨A', c', rfl, _, h1, h2⟩ := hv; exact ⟨A', _, c', true, rfl, rfl, h1, h2⟩
end Go.Proofs
