/- Queues that age: of those with like priority. -/
import Derived.Test.YtkighcolplcnbaaAgJ12
set_option linter.unusedVariables false
namespace Go.Proofs
open Go Go.Eng
theorem id_inj {Q : Que} (h : Rise Q) {x y : Wt} (hx : x ∈ Q.ws) (hy : y ∈ Q.ws) (e : x.id = y.id) : x = y := by
  obtain ⟨i, hi, rfl⟩ := List.mem_iff_getElem.1 hx
  obtain ⟨k, hk, rfl⟩ := List.mem_iff_getElem.1 hy
  rcases Nat.lt_trichotomy i k with hl | hl | hl
  · have := List.pairwise_iff_getElem.1 h.1 i k hi hk hl; omega
  · subst hl; rfl
  · have := List.pairwise_iff_getElem.1 h.1 k i hk hi hl; omega
theorem nx_at {Q : Que} (h : nxB Q = true) : ∃ (i : Nat) (x : Wt), pl Q = (i : Int) ∧ Q.ws[i]? = some x ∧ nxI Q = x.id := by
  have h0 : 0 ≤ pl Q := of_decide_eq_true h
  obtain ⟨l1, l2, l3⟩ := pl_lt Q
  obtain ⟨m, hm⟩ := Int.eq_ofNat_of_zero_le h0
  have hx : Q.ws[m]? = some Q.ws[m] := List.getElem?_eq_getElem (by omega)
  exact ⟨m, _, hm, hx, by unfold nxI; rw [hm, Int.toNat_natCast, hx]; rfl⟩
section
variable {W : World} {A : Option Addr} {c : Nat} {al : List Act}
theorem agingLike_ok (h : RowAt W.heap.size 2 (ActQ W) A al) (hc : al.length ≤ c) (hm : c ≤ 9223372036854775807) {st : Int} (hst : 0 ≤ st ∧ st < 256) : Ret Try.prog 4 [.int .u8 st, .slice A al.length c] W (Done W) := by
  apply S4_calls
  refine (shown_ok W).use ?_
  rintro v w1 ⟨rfl, f1⟩
  have t0 : 0 ≤ Int.tmod st 21 := Int.tmod_nonneg _ hst.1
  have t1 : Int.tmod st 21 < 21 := Int.tmod_lt_of_pos _ (by decide)
  refine ⟨_, rfl, by decide, ?_⟩
  rw [IntWalk.i64_in _ (by omega)]
  generalize Int.tmod st 21 = n at t0 t1
  refine (QK.new (K := fun _ => False) (B := W.heap.size) (n := n) (by omega) f1.size (fun _ h => h.elim)).use ?_
  rintro v w2 ⟨q, rfl, h2, f2, hq⟩
  refine ⟨_, _, rfl, cF rfl (cF rfl ?_)⟩
  have g2 : Bel W.heap.size W w2 := f1.bel0.trans' f2.bel0
  refine (few_ok hc hm).use ?_
  rintro v w2 ⟨rfl, rfl⟩
  have hrow := RowAt.take h 300
  have h300 := List.length_take_le 300 al
  generalize al.take 300 = bl at hrow h300
  refine ⟨_, _, _, rfl, ?_⟩
  refine ⟨fun s w' => ∃ (i : Nat) (Q : Que), s.1 = (i : Int) ∧ i ≤ bl.length ∧ QK (fun _ => False) W.heap.size w' q Q ∧ Q.n ≤ i ∧ Q.b ≤ i ∧ Rise Q ∧ Falls Q.ws ∧ Bel W.heap.size W w', fun s _ => bl.length - s.1.toNat, ⟨0, _, rfl, Nat.zero_le _, h2, Nat.le_refl _, Nat.le_refl _, ⟨List.Pairwise.nil, by simp⟩, List.Pairwise.nil, g2⟩, ?_⟩
  rintro J ⟨i', ⟨⟩⟩ w3 ⟨i, Q, hi, hil, h3, hn, hb, hR, hF, g3⟩
  dsimp only at hi ⊢
  subst hi
  refine cD (fun hlt => ?_) (fun hlt => ⟨rfl, g3.top⟩)
  have hlt' : i < bl.length := by have : (i : Int) < (bl.length : Int) := hlt; omega
  have hx : bl[i]? = some bl[i] := List.getElem?_eq_getElem hlt'
  generalize bl[i] = x at hx
  obtain ⟨a, ha, c0, c1, x0, x1⟩ := act_at hrow g3 (Nat.le_refl _) hx
  refine ⟨a, ha, by omega, by omega, _, by rw [Int.toNat_natCast]; exact c0, _, by rw [Int.toNat_natCast]; exact c1, ?_⟩
  obtain ⟨p1, p2, p3, p4, b4, f4⟩ := cp2 w3 31 (.int .u8 0) (.int .i64 0) (.int .u8 x.1) (.int .i64 x.2)
  refine ⟨p1, p2, p3, p4, ?_⟩
  generalize World.setCell _ _ _ = w4 at b4 f4 ⊢
  have h4 := h3.fr0 f4
  have g4 := g3.trans' f4.bel0
  have hdn := doQ_n Q x
  have hRd := rise_do hR x
  have hqok := h3.1.qok
  have hFd := falls_do hF (fun y hy => (hqok.2.2.2.1 y hy).2.2.1) x
  have nextI : IntKind.i64.wrap ((i : Int) + 1) = ((i + 1 : Nat) : Int) := by rw [IntWalk.i64_in _ (by omega)]; rfl
  refine ⟨x.1, (b4.cell 0).trans rfl, by decide, cD (fun k0 => ?_) (fun k0 => cD (fun k1 => ?_) (fun k1 => ?_))⟩
  · have e : doQ Q x = adQ Q x.2 := if_pos k0
    rw [e] at hdn hRd hFd
    rw [nextI]
    refine ⟨_, (b4.cell 1).trans rfl, ?_⟩
    refine (h4.add x.2 (by omega)).use ?_
    rintro v w5 ⟨rfl, h5, f5⟩
    exact ⟨_, _, rfl, ⟨i + 1, _, rfl, by omega, h5, by omega, by omega, hRd, hFd, g4.trans' (offK_bel f5)⟩, by dsimp only; omega⟩
  · have e : doQ Q x = tkQ Q := by unfold doQ; rw [if_neg (show ¬ kd x = 0 from k0), if_pos (show kd x = 1 from k1)]
    rw [e] at hdn hRd hFd
    refine (qall_ok h4.1).use ?_
    rintro v w5 ⟨A5, c5, rfl, o5, f5⟩
    have h5 := h4.grow f5 fun _ _ h => h.elim
    refine ⟨_, _, _, rfl, ?_⟩
    refine (h5.take (by omega)).use ?_
    rintro v w6 ⟨rfl, h6, f6⟩
    have o6 := (o5.mono (ok' := fun k => w4.heap.size ≤ k ∧ k < w5.heap.size) fun k hk h => ⟨h, hk⟩).fr f6 fun k _ hk ho => ho.2 (.inr hk)
    have r6 := (o6.mono (ok' := fun k => k < w6.heap.size) fun k hk _ => hk).rd
    have g6 := g4.trans' (f5.bel0.trans' (offK_bel f6))
    have h6' := h6.shrink (K' := fun _ => False) fun _ h => h.elim
    have hl64 := hqok.1
    have hnx : nxB Q = decide ((0 : Int) < ((Q.ws.length : Nat) : Int)) := by
      unfold nxB
      rw [decide_eq_decide]
      obtain ⟨l1, l2, l3⟩ := pl_lt Q
      constructor
      · intro h0; omega
      · intro h0
        have : pl Q ≠ -1 := fun e => by have := l2.1 e; rw [this] at h0; simp at h0
        omega
    refine ⟨_, _, rfl, cF (by rw [← hnx]; simp) ?_⟩
    -- what is known of the one that was taken
    have key : nxB Q = true → ∃ x0, x0 ∈ Q.ws ∧ x0.id = nxI Q ∧ ∀ y ∈ Q.ws, y.pr = x0.pr → ¬ y.id < nxI Q := fun hb => by
      obtain ⟨m, x0, hpm, hxm, hid⟩ := nx_at hb
      exact ⟨x0, List.mem_of_getElem? hxm, hid.symm, fun y hy hpr => by rw [hid]; exact like_first hR hF hpm hxm hy hpr⟩
    have eI : nxB Q = true → (if nxB Q then nxI Q else 0) = nxI Q := fun hb => by rw [if_pos hb]
    generalize hidv : (if nxB Q then nxI Q else 0) = idv at eI
    refine ⟨fun s w' => ∃ k : Nat, s.2.2.1 = (k : Int) ∧ k ≤ Q.ws.length ∧ ((s.2.1 = false ∧ ∀ y ∈ Q.ws.take k, y.id ≠ idv) ∨ (s.2.1 = true ∧ ∃ y ∈ Q.ws, y.id = idv ∧ y.pr = s.1)) ∧ Fr none1 w6 w', fun s _ => Q.ws.length - s.2.2.1.toNat, ⟨0, rfl, Nat.zero_le _, .inl ⟨rfl, by simp⟩, Fr.refl _ _⟩, ?_⟩
    rintro J2 ⟨pr, fd, k', ⟨⟩⟩ w7 ⟨k, hk, hkl, hst7, f7⟩
    dsimp only at hk hst7 ⊢
    subst hk
    refine cD (fun hlt2 => ?_) (fun hlt2 => ?_)
    · have hlt2' : k < Q.ws.length := by have : (k : Int) < (Q.ws.length : Int) := hlt2; omega
      have hxk : Q.ws[k]? = some Q.ws[k] := List.getElem?_eq_getElem hlt2'
      have hmem := List.mem_of_getElem? hxk
      have hst2 : Q.ws.take (k + 1) = Q.ws.take k ++ [Q.ws[k]] := by rw [List.take_add_one, hxk]; rfl
      generalize Q.ws[k] = y at hxk hst2 hmem
      obtain ⟨t, ht, _, d0, d1, d2⟩ := own_wt (r6.fr f7 fun _ _ _ h => h) hxk
      refine ⟨t, ht, by omega, by omega, _, by rw [Int.toNat_natCast]; exact d0, _, by rw [Int.toNat_natCast]; exact d1, _, by rw [Int.toNat_natCast]; exact d2, ?_⟩
      obtain ⟨p1, p2, p3, p4, p5, p6, b8, f8⟩ := cp3 w7 40 (.int .i64 0) (.int .i64 0) (.int .i64 0) (.int .i64 y.id) (.int .i64 y.pr) (.int .i64 y.bp)
      refine ⟨p1, p2, p3, p4, p5, p6, ?_⟩
      generalize World.setCell _ _ _ = w8 at b8 f8 ⊢
      rw [IntWalk.i64_in ((k : Int) + 1) (by omega)]
      refine ⟨_, (b8.cell 0).trans rfl, cD (fun he => ⟨_, (b8.cell 1).trans rfl, ⟨k + 1, rfl, by omega, .inr ⟨rfl, y, hmem, he, rfl⟩, f7.trans' f8⟩, by dsimp only; omega⟩) (fun he => ⟨⟨k + 1, rfl, by omega, ?_, f7.trans' f8⟩, by dsimp only; omega⟩)⟩
      rcases hst7 with ⟨h1, h2⟩ | h1
      · refine .inl ⟨h1, fun z hz => ?_⟩
        rw [hst2] at hz
        rcases List.mem_append.1 hz with hz | hz
        · exact h2 z hz
        · rw [List.mem_singleton] at hz; subst hz; exact he
      · exact .inr h1
    · have hge : k = Q.ws.length := by have : ¬ (k : Int) < (Q.ws.length : Int) := hlt2; omega
      subst hge
      rw [List.take_length] at hst7
      refine ⟨fun s w' => ∃ m : Nat, s.1 = (m : Int) ∧ m ≤ Q.ws.length ∧ Fr none1 w6 w', fun s _ => Q.ws.length - s.1.toNat, ⟨0, rfl, Nat.zero_le _, f7⟩, ?_⟩
      rintro J3 ⟨m', ⟨⟩⟩ w8 ⟨m, hm', hml, f8⟩
      dsimp only at hm' ⊢
      subst hm'
      refine cD (fun hlt3 => ?_) (fun hlt3 => ?_)
      · have hlt3' : m < Q.ws.length := by have : (m : Int) < (Q.ws.length : Int) := hlt3; omega
        have hxm : Q.ws[m]? = some Q.ws[m] := List.getElem?_eq_getElem hlt3'
        have hmem := List.mem_of_getElem? hxm
        generalize Q.ws[m] = y at hxm hmem
        obtain ⟨t, ht, _, d0, d1, d2⟩ := own_wt (r6.fr f8 fun _ _ _ h => h) hxm
        refine ⟨t, ht, by omega, by omega, _, by rw [Int.toNat_natCast]; exact d0, _, by rw [Int.toNat_natCast]; exact d1, _, by rw [Int.toNat_natCast]; exact d2, ?_⟩
        obtain ⟨p1, p2, p3, p4, p5, p6, b9, f9⟩ := cp3 w8 40 (.int .i64 0) (.int .i64 0) (.int .i64 0) (.int .i64 y.id) (.int .i64 y.pr) (.int .i64 y.bp)
        refine ⟨p1, p2, p3, p4, p5, p6, ?_⟩
        generalize World.setCell _ _ _ = w9 at b9 f9 ⊢
        have nb : nxB Q = true := by rw [hnx]; exact decide_eq_true (by omega)
        obtain ⟨x0, hx0, hid0, hno⟩ := key nb
        have eV := eI nb
        rcases hst7 with ⟨_, h2⟩ | ⟨h1, z, hz, hzi, hzp⟩
        · exact absurd (hid0.trans eV.symm) (h2 x0 hx0)
        · have ez : z = x0 := id_inj hR hz hx0 (by rw [hzi, hid0, eV])
          subst ez
          refine cT nb (cF (by rw [h1]; rfl) ⟨_, (b9.cell 1).trans rfl, cD (fun hp => ⟨_, (b9.cell 0).trans rfl, cF (decide_eq_false ?_) ?_⟩) (fun hp => cF rfl ?_)⟩)
          · have := hno y hmem (by rw [hp, hzp])
            rw [eV]; exact this
          all_goals
            rw [IntWalk.i64_in ((m : Int) + 1) (by omega)]
            exact ⟨⟨m + 1, rfl, by omega, f8.trans' f9⟩, by dsimp only; omega⟩
      · rw [nextI]
        exact ⟨⟨i + 1, _, rfl, by omega, h6'.fr0 f8, by omega, by omega, hRd, hFd, g6.trans' f8.bel0⟩, by dsimp only; omega⟩
  · have e : doQ Q x = drQ Q x.2 := by unfold doQ; rw [if_neg (show ¬ kd x = 0 from k0), if_neg (show ¬ kd x = 1 from k1)]
    rw [e] at hdn hRd hFd
    rw [nextI]
    refine ⟨_, (b4.cell 1).trans rfl, ?_⟩
    refine (h4.drop x.2).use ?_
    rintro v w5 ⟨rfl, h5, f5⟩
    exact ⟨_, rfl, ⟨i + 1, _, rfl, by omega, h5, by omega, by omega, hRd, hFd, g4.trans' (offK_bel f5)⟩, by dsimp only; omega⟩
end
end Go.Proofs
