/- Queues that age: AgingAll. -/
import Derived.Test.YtkighcolplcnbaaAgU12
import Derived.Test.YtkighcolplcnbaaMapX
set_option linter.unusedVariables false
namespace Go.Proofs
open Go Go.Eng
def ids (Q : Que) : List Int := Q.ws.map (·.id)
theorem ids_nodup {Q : Que} (h : Rise Q) : (ids Q).Nodup := by
  have h1 : (ids Q).Pairwise (· < ·) := List.pairwise_map.2 h.1
  exact h1.imp fun h => by omega
theorem ids_bounds {Q : Que} (h : Rise Q) (hQ : QOk Q) : ∀ a ∈ ids Q, 0 ≤ a ∧ a ≤ 1000000 := by
  intro a ha
  obtain ⟨x, hx, rfl⟩ := List.mem_map.1 ha
  have := h.2 x hx
  have := hQ.2.1
  omega
theorem mem_erase_nodup {l : List Int} (h : l.Nodup) {m : Nat} {y : Int} (hy : l[m]? = some y) (a : Int) : a ∈ l.eraseIdx m ↔ a ∈ l ∧ a ≠ y := by
  rw [List.mem_eraseIdx_iff_getElem?]
  constructor
  · rintro ⟨i, hne, hi⟩
    refine ⟨List.mem_of_getElem? hi, fun e => hne ?_⟩
    subst e
    obtain ⟨h1, h2⟩ := List.getElem?_eq_some_iff.1 hi
    obtain ⟨h3, h4⟩ := List.getElem?_eq_some_iff.1 hy
    exact (List.getElem_inj h).1 (h2.trans h4.symm)
  · rintro ⟨ha, hne⟩
    obtain ⟨i, hi⟩ := List.getElem?_of_mem ha
    refine ⟨i, fun e => hne ?_, hi⟩
    subst e
    rw [hi] at hy
    exact Option.some.inj hy
theorem ids_take {Q : Que} (h : nxB Q = true) : ∃ m, (ids Q)[m]? = some (nxI Q) ∧ ids (tkQ Q) = (ids Q).eraseIdx m := by
  obtain ⟨m, x, hpm, hxm, hid⟩ := nx_at h
  refine ⟨m, by unfold ids; rw [List.getElem?_map, hxm, hid]; rfl, ?_⟩
  unfold ids tkQ
  rw [if_pos h, hpm, Int.toNat_natCast]
  show ((bump Q.ws m).eraseIdx m).map (·.id) = _
  rw [Go.ChangeMaps.map_eraseIdx, bump_ids]
def inIds (l : List Int) : Int → Option Value := fun a => if a ∈ l then some (.bool true) else none
theorem Zbool (w : World) : (zeroValue 4).run Try.prog w = .ok (.bool false) w := by kernel_rfl
theorem Umb : Try.prog.underlying 42 = some (.map 3 4) := by kernel_rfl
theorem Uint : Try.prog.underlying 3 = some (.int .i64) := by kernel_rfl
theorem i64_rng {a : Int} (h : 0 ≤ a ∧ a ≤ 1000000) : IntKind.i64.min ≤ a ∧ a ≤ IntKind.i64.max := by
  simp [IntKind.min, IntKind.max, IntKind.bits, IntKind.signed]; omega
section
variable {W : World} {A : Option Addr} {c : Nat} {al : List Act}
theorem agingAll_ok (h : RowAt W.heap.size 2 (ActQ W) A al) (hc : al.length ≤ c) (hm : c ≤ 9223372036854775807) {st : Int} (hst : 0 ≤ st ∧ st < 256) : Ret Try.prog 5 [.int .u8 st, .slice A al.length c] W (Done W) := by
  apply S5_calls
  refine (shown_ok W).use ?_
  rintro v w1 ⟨rfl, f1⟩
  have t0 : 0 ≤ Int.tmod st 21 := Int.tmod_nonneg _ hst.1
  have t1 : Int.tmod st 21 < 21 := Int.tmod_lt_of_pos _ (by decide)
  refine ⟨_, rfl, by decide, ?_⟩
  rw [IntWalk.i64_in _ (by omega)]
  generalize Int.tmod st 21 = n at t0 t1
  refine (QK.new (K := fun _ => False) (B := W.heap.size) (n := n) (by omega) f1.size (fun _ h => h.elim)).use ?_
  rintro v w2 ⟨q, rfl, h2, f2, hq⟩
  refine ⟨_, _, rfl, cF rfl (cF rfl ?_)⟩
  have g2 : Bel W.heap.size W w2 := f1.bel0.trans' f2.bel0
  refine (few_ok hc hm).use ?_
  rintro v w2 ⟨rfl, rfl⟩
  have hrow := RowAt.take h 300
  have h300 := List.length_take_le 300 al
  generalize al.take 300 = bl at hrow h300
  refine ⟨_, _, _, rfl, ?_⟩
  refine ⟨fun s w' => ∃ (i : Nat) (Q : Que), s.1 = (i : Int) ∧ i ≤ bl.length ∧ QK (fun _ => False) W.heap.size w' q Q ∧ Q.n ≤ i ∧ Q.b ≤ i ∧ Rise Q ∧ Bel W.heap.size W w', fun s _ => bl.length - s.1.toNat, ⟨0, _, rfl, Nat.zero_le _, h2, Nat.le_refl _, Nat.le_refl _, ⟨List.Pairwise.nil, by simp⟩, g2⟩, ?_⟩
  rintro J ⟨i', ⟨⟩⟩ w3 ⟨i, Q, hi, hil, h3, hn, hb, hR, g3⟩
  dsimp only at hi ⊢
  subst hi
  refine cD (fun hlt => ?_) (fun hlt => ?_)
  · have hlt' : i < bl.length := by have : (i : Int) < (bl.length : Int) := hlt; omega
    have hM : bl.length - ((i + 1 : Nat) : Int).toNat < bl.length - (i : Int).toNat := by omega
    have hx : bl[i]? = some bl[i] := List.getElem?_eq_getElem hlt'
    generalize bl[i] = x at hx
    obtain ⟨a, ha, c0, c1, x0, x1⟩ := act_at hrow g3 (Nat.le_refl _) hx
    refine ⟨a, ha, by omega, by omega, _, by rw [Int.toNat_natCast]; exact c0, _, by rw [Int.toNat_natCast]; exact c1, ?_⟩
    obtain ⟨p1, p2, p3, p4, b4, f4⟩ := cp2 w3 31 (.int .u8 0) (.int .i64 0) (.int .u8 x.1) (.int .i64 x.2)
    refine ⟨p1, p2, p3, p4, ?_⟩
    generalize World.setCell _ _ _ = w4 at b4 f4 ⊢
    have h4 := h3.fr0 f4
    have g4 := g3.trans' f4.bel0
    have hdn := doQ_n Q x
    have hRd := rise_do hR x
    have nextI : IntKind.i64.wrap ((i : Int) + 1) = ((i + 1 : Nat) : Int) := by rw [IntWalk.i64_in _ (by omega)]; rfl
    rw [nextI]
    refine ⟨x.1, (b4.cell 0).trans rfl, by decide, cD (fun k0 => ?_) (fun k0 => cD (fun k1 => ?_) (fun k1 => ?_))⟩
    · have e : doQ Q x = adQ Q x.2 := if_pos k0
      rw [e] at hdn hRd
      refine ⟨_, (b4.cell 1).trans rfl, ?_⟩
      refine (h4.add x.2 (by omega)).use ?_
      rintro v w5 ⟨rfl, h5, f5⟩
      exact ⟨_, _, rfl, ⟨i + 1, _, rfl, by omega, h5, by omega, by omega, hRd, g4.trans' (offK_bel f5)⟩, hM⟩
    · have e : doQ Q x = tkQ Q := by unfold doQ; rw [if_neg (show ¬ kd x = 0 from k0), if_pos (show kd x = 1 from k1)]
      rw [e] at hdn hRd
      refine (h4.take (by omega)).use ?_
      rintro v w5 ⟨rfl, h5, f5⟩
      exact ⟨_, _, rfl, ⟨i + 1, _, rfl, by omega, h5, by omega, by omega, hRd, g4.trans' (offK_bel f5)⟩, hM⟩
    · have e : doQ Q x = drQ Q x.2 := by unfold doQ; rw [if_neg (show ¬ kd x = 0 from k0), if_neg (show ¬ kd x = 1 from k1)]
      rw [e] at hdn hRd
      refine ⟨_, (b4.cell 1).trans rfl, ?_⟩
      refine (h4.drop x.2).use ?_
      rintro v w5 ⟨rfl, h5, f5⟩
      exact ⟨_, rfl, ⟨i + 1, _, rfl, by omega, h5, by omega, by omega, hRd, g4.trans' (offK_bel f5)⟩, hM⟩
  -- all that are left
  have hqok := h3.1.qok
  have hl64 := hqok.1
  have f4 : Fr none1 w3 (w3.alloc (.map #[] 0)) := Fr.alloc _ _
  have m4 := IM.made w3 Try.prog 3
  have hml := m4.lt
  unfold S5_k4
  generalize w3.alloc (.map #[] 0) = w4 at f4 m4 hml ⊢
  obtain ⟨K, h4, hKm, _⟩ := h3.grow1 f4
  have hKm := hKm _ (Nat.le_refl _) hml
  have hBm : W.heap.size ≤ w3.heap.size := g3.size
  generalize w3.heap.size = m at *
  have g4 := g3.trans' f4.bel0
  refine (qall_ok h4.1).use ?_
  rintro v w5 ⟨A5, c5, rfl, o5, f5⟩
  refine ⟨_, _, _, rfl, ?_⟩
  have h5 := h4.fr0 f5
  have m5 := m4.fr f5 fun h => h
  have g5 := g4.trans' f5.bel0
  have r5 : Rd w5 (fun k => k ≠ m) A5 (rws wcell Q.ws) := (o5.mono (ok' := fun k => k ≠ m) fun k _ hk e => by have hk : w4.heap.size ≤ k := hk; omega).rd
  refine ⟨fun s w' => ∃ k : Nat, s.1 = (k : Int) ∧ k ≤ Q.ws.length ∧ IM w' Try.prog 3 m k k (inIds (ids Q |>.take k)) ∧ Fr (fun k => k = m) w5 w', fun s _ => Q.ws.length - s.1.toNat, ⟨0, rfl, Nat.zero_le _, (by rw [show inIds ((ids Q).take 0) = (fun _ => none) from by funext a; simp [inIds]]; exact m5), Fr.refl _ _⟩, ?_⟩
  rintro J2 ⟨k', ⟨⟩⟩ w6 ⟨k, hk, hkl, m6, f6⟩
  dsimp only at hk ⊢
  subst hk
  refine cD (fun hlt2 => ?_) (fun hlt2 => ?_)
  · have hlt2' : k < Q.ws.length := by have : (k : Int) < (Q.ws.length : Int) := hlt2; omega
    have hxk : Q.ws[k]? = some Q.ws[k] := List.getElem?_eq_getElem hlt2'
    generalize Q.ws[k] = y at hxk
    have hyk : (ids Q)[k]? = some y.id := by unfold ids; rw [List.getElem?_map, hxk]; rfl
    obtain ⟨t, ht, _, d0, d1, d2⟩ := own_wt (r5.fr f6 fun _ _ h e => h e) hxk
    refine ⟨t, ht, by omega, by omega, _, by rw [Int.toNat_natCast]; exact d0, _, by rw [Int.toNat_natCast]; exact d1, _, by rw [Int.toNat_natCast]; exact d2, ?_⟩
    obtain ⟨p1, p2, p3, p4, p5, p6, b7, f7⟩ := cp3 w6 40 (.int .i64 0) (.int .i64 0) (.int .i64 0) (.int .i64 y.id) (.int .i64 y.pr) (.int .i64 y.bp)
    refine ⟨p1, p2, p3, p4, p5, p6, ?_⟩
    generalize World.setCell _ _ _ = w7 at b7 f7 ⊢
    have m7 := m6.fr f7 fun h => h
    have hyb := ids_bounds hR hqok y.id (List.mem_of_getElem? hyk)
    obtain ⟨w8, r8, m8, f8⟩ := m7.update Uint Umb (by simp only [maxLen]; omega) (i64_rng hyb) (.bool true)
    refine ⟨_, (b7.cell 0).trans rfl, w8, r8, ?_⟩
    rw [IntWalk.i64_in _ (by omega)]
    have hnot : y.id ∉ (ids Q).take k := by
      intro hmem
      obtain ⟨j, hj⟩ := List.getElem?_of_mem hmem
      rw [List.getElem?_take] at hj
      split at hj
      · rename_i hjk
        obtain ⟨a1, a2⟩ := List.getElem?_eq_some_iff.1 hj
        obtain ⟨a3, a4⟩ := List.getElem?_eq_some_iff.1 hyk
        have := (List.getElem_inj (ids_nodup hR)).1 (a2.trans a4.symm)
        omega
      · cases hj
    have e1 : inIds ((ids Q).take k) y.id = none := by unfold inIds; rw [if_neg hnot]
    rw [e1] at m8
    have e2 : updI (inIds ((ids Q).take k)) y.id (some (.bool true)) = inIds ((ids Q).take (k + 1)) := by
      funext a
      unfold updI inIds
      rw [List.take_add_one, hyk]
      by_cases ea : a = y.id
      · subst ea; simp
      · simp [ea]
    rw [e2] at m8
    exact ⟨⟨k + 1, rfl, by omega, m8, f6.trans' ((f7.mono fun _ _ h => h.elim).trans' f8)⟩, by dsimp only; omega⟩
  have hge : k = Q.ws.length := by have : ¬ (k : Int) < (Q.ws.length : Int) := hlt2; omega
  subst hge
  have htl : (ids Q).take Q.ws.length = ids Q := by
    have : Q.ws.length = (ids Q).length := by unfold ids; rw [List.length_map]
    rw [this, List.take_length]
  rw [htl] at m6
  have h6 := h5.fr f6 fun k _ e => .inl (by have e : k = m := e; subst e; exact hKm)
  have g6 := g5.trans' (f6.bel fun k e => by subst e; exact hBm)
  refine (qall_ok h6.1).use ?_
  rintro v w7 ⟨A7, c7, rfl, o7, f7⟩
  refine ⟨_, _, _, rfl, ?_⟩
  refine ⟨fun s w' => ∃ (k : Nat) (Q' : Que), s.1 = (k : Int) ∧ k ≤ Q.ws.length ∧ Q'.ws.length + k = Q.ws.length ∧ Q'.b ≤ 300 + k ∧ Rise Q' ∧ QK K W.heap.size w' q Q' ∧ IM w' Try.prog 3 m Q.ws.length Q'.ws.length (inIds (ids Q')) ∧ Bel W.heap.size W w', fun s _ => Q.ws.length - s.1.toNat, ⟨0, Q, rfl, Nat.zero_le _, rfl, by omega, hR, h6.fr0 f7, m6.fr f7 fun h => h, g6.trans' f7.bel0⟩, ?_⟩
  rintro J3 ⟨k', ⟨⟩⟩ w8 ⟨k, Q', hk, hkl, hlen, hb', hR', h8, m8, g8⟩
  dsimp only at hk ⊢
  subst hk
  have hnx := nxB_len Q'
  refine cD (fun hlt3 => ?_) (fun hlt3 => ?_)
  · have hlt3' : k < Q.ws.length := by have : (k : Int) < (Q.ws.length : Int) := hlt3; omega
    have nb : nxB Q' = true := by rw [hnx]; exact decide_eq_true (by omega)
    obtain ⟨j, hj1, hj2⟩ := ids_take nb
    have hmem := List.mem_of_getElem? hj1
    have hqok8 := h8.1.qok
    have hbd := ids_bounds hR' hqok8 _ hmem
    have hlen' : (tkQ Q').ws.length + 1 = Q'.ws.length := by
      have e1 := congrArg List.length hj2
      have e2 := (List.getElem?_eq_some_iff.1 hj1).1
      rw [List.length_eraseIdx, if_pos e2] at e1
      unfold ids at e1 e2
      simp only [List.length_map] at e1 e2
      omega
    refine (h8.take (by omega)).use ?_
    rintro v w9 ⟨rfl, h9, f9⟩
    rw [nb, if_pos rfl]
    have m9 := m8.fr f9 fun hk => hk.2 hKm
    have ef : inIds (ids Q') (nxI Q') = some (.bool true) := by unfold inIds; rw [if_pos hmem]
    have lk := m9.lookup Uint Umb (Zbool w9) (i64_rng hbd)
    rw [ef] at lk
    obtain ⟨w10, r10, m10, f10⟩ := m9.delete Uint Umb (i64_rng hbd) 0
    refine ⟨_, _, rfl, cF rfl ⟨true, w9, lk, cF rfl ⟨w10, r10, ?_⟩⟩⟩
    rw [IntWalk.i64_in _ (by omega)]
    rw [ef] at m10
    have hrt := rise_take hR'
    have e2 : updI (inIds (ids Q')) (nxI Q') none = inIds (ids (tkQ Q')) := by
      funext a
      unfold updI inIds
      have := mem_erase_nodup (ids_nodup hR') hj1 a
      rw [hj2]
      by_cases ea : a = nxI Q'
      · subst ea; simp [this]
      · simp [ea, this]
    rw [e2] at m10
    have e3 : (if (some (Value.bool true)).isSome = true then Q'.ws.length - 1 else Q'.ws.length) = (tkQ Q').ws.length := by simp; omega
    rw [e3] at m10
    have htn := (tkQ_n Q').2
    refine ⟨⟨k + 1, tkQ Q', rfl, by omega, by omega, by omega, hrt, h9.fr f10 fun k _ e => .inl (by have e : k = m := e; subst e; exact hKm), m10, g8.trans' ((offK_bel f9).trans' (f10.bel fun k e => by subst e; exact hBm))⟩, by dsimp only; omega⟩
  · have hge : k = Q.ws.length := by have : ¬ (k : Int) < (Q.ws.length : Int) := hlt3; omega
    have hl0 : Q'.ws.length = 0 := by omega
    have nb : nxB Q' = false := by rw [hnx, hl0]; rfl
    refine (h8.take (by omega)).use ?_
    rintro v w9 ⟨rfl, h9, f9⟩
    have m9 := m8.fr f9 fun hk => hk.2 hKm
    have et : tkQ Q' = Q' := by unfold tkQ; rw [nb]; rfl
    rw [et] at h9
    rw [nb]
    refine ⟨_, _, rfl, cT rfl ⟨_, w9, m9.len Umb _, ?_⟩⟩
    rw [hl0]
    refine cT rfl (cT rfl ?_)
    refine (qlen_ok h9.1).use ?_
    rintro v w10 ⟨rfl, rfl⟩
    rw [hl0]
    exact ⟨_, rfl, rfl, (g8.trans' (offK_bel f9)).top⟩
end
end Go.Proofs
