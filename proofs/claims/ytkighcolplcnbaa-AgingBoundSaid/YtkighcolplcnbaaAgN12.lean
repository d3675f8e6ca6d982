/- Queues that age: contracts of the reference. -/
import Derived.Test.YtkighcolplcnbaaAgM12
set_option linter.unusedVariables false
namespace Go.Proofs
open Go Go.Eng
def RQ (w : World) (ok : Nat → Prop) (q : Nat) (Q : Que) : Prop := ok q ∧ ∃ A c, Blk w q 48 (qcs A c Q) ∧ Own w 40 3 ok A Q.ws.length c (rws wcell Q.ws) ∧ QOk Q
theorem RQ.fr {F : Nat → Prop} {w w' : World} {ok : Nat → Prop} {q : Nat} {Q : Que} (h : RQ w ok q Q) (f : Fr F w w') (hd : ∀ k, k < w.heap.size → ok k → ¬ F k) : RQ w' ok q Q := by
  obtain ⟨h0, A, c, h1, h2, h3⟩ := h
  exact ⟨h0, A, c, h1.fr f (hd q h1.lt h0), h2.fr f hd, h3⟩
theorem RQ.fr0 {w w' : World} {ok : Nat → Prop} {q : Nat} {Q : Que} (h : RQ w ok q Q) (f : Fr none1 w w') : RQ w' ok q Q := h.fr f fun _ _ _ h => h
section
variable {w : World} {ok : Nat → Prop} {q : Nat} {Q : Que}
theorem rout_ok (h : RQ w ok q Q) {i : Nat} (hi : i < Q.ws.length) : Ret Try.prog 29 [.pointer (some ⟨q, 0, none⟩), .int .i64 (i : Int)] w fun v w' => v = .tuple ⟨[]⟩ ∧ RQ w' (qplus ok w) q { Q with ws := Q.ws.eraseIdx i } ∧ Fr ok w w' := by
  obtain ⟨hok, A, c, h1, h2, q1, q2, q3, q4, q5⟩ := h
  have hlc := h2.le
  have hlen := h2.1
  apply S29_calls
  have fz : Fr none1 w (w.alloc (.cells ⟨[]⟩ 40)) := Fr.alloc _ _
  have lit := Own.lit w 40 3 0 [] (by simp) (by simp)
  have k1 := h1.fr fz fun h => h
  have o1 := h2.fr fz fun _ _ _ h => h
  have ht := (o1.take (n := i) (by omega)).rd
  rw [rws_take wcell_len] at ht
  obtain ⟨A2, c2, w2, r2, o2, f2, _⟩ := run_append (ty := 37) (m := i) (c2 := c) Ewt lit (by rw [rws_length wcell_len, List.length_take]; omega) ht (rws_cells wcell_one _) (by omega) (by simp only [maxLen]; omega)
  rw [Nat.zero_add] at r2 o2
  rw [List.nil_append] at o2
  have hz := (Blk.new w 40 []).lt
  have f02 : Fr none1 w w2 := fz.trans f2 fun k hk ⟨a, ha, e⟩ => by cases ha; simp only at e; omega
  have k2 := h1.fr f02 fun h => h
  have oA2 := h2.fr f02 fun _ _ _ h => h
  have e1 : Int.toNat (i : Int) - 0 = i := by simp
  have e2 : Int.toNat ((i : Int) + 1) = i + 1 := by omega
  refine ⟨_, rfl, A, _, c, (k1.cell 0).trans rfl, by omega, by omega, A2, i, c2, w2, ?_, ?_⟩
  · rw [e1, slAddr_zero, Nat.sub_zero]; exact r2
  refine ⟨_, rfl, A, _, c, (k2.cell 0).trans rfl, ?_⟩
  rw [IntWalk.i64_in ((i : Int) + 1) (by omega), e2]
  have hd := oA2.rd.drop (m := c) (l := i + 1) (sz := 3) (by rw [hlen]; omega)
  rw [rws_drop wcell_len] at hd
  obtain ⟨A3, c3, w3, r3, o3, f3, _⟩ := run_append (ty := 37) (m := Q.ws.length - (i + 1)) (c2 := c - (i + 1)) Ewt o2 (by rw [rws_length wcell_len, List.length_drop]) hd (rws_cells wcell_one _) (by omega) (by simp only [maxLen]; omega)
  have hl1 : i + (Q.ws.length - (i + 1)) = (Q.ws.eraseIdx i).length := by rw [List.length_eraseIdx, if_pos hi]; omega
  rw [hl1] at r3 o3
  rw [← rws_eraseIdx] at o3
  have hA2 : ∀ k, ownAt A2 k → w.heap.size ≤ k := fun k ⟨a, ha, e⟩ => by
    have := (o2.has a ha).1
    have hs := fz.size
    rw [← e]
    rcases this with h | h <;> omega
  have f03 : Fr none1 w w3 := f02.trans f3 fun k hk h => by have := hA2 k h; omega
  have k3 := h1.fr f03 fun h => h
  have fs := setQ w3 q 0 (.slice A3 (Q.ws.eraseIdx i).length c3)
  have hqlt := h1.lt
  have hs2 := f02.size
  have hsz := fz.size
  have o3' := o3.mono (ok' := fun k => w.heap.size ≤ k) fun k _ h => by
    rcases h with (h | h) | h <;> omega
  refine ⟨by omega, by omega, A3, _, c3, w3, r3, _, rfl, k3.has 0 (by simp [qcs]), k3.free 0, rfl, ⟨.inl hok, A3, c3, k3.set 0 _, (o3'.fr fs fun k _ hk e => by subst e; omega).mono fun k _ h => .inr h, ?_⟩, (f03.mono fun _ _ h => h.elim).trans' (fs.mono fun k _ e => by subst e; exact hok)⟩
  refine ⟨?_, q2, q3, fun x hx => q4 x (List.mem_of_mem_eraseIdx hx), q5⟩
  show (Q.ws.eraseIdx i).length ≤ 64
  have := List.length_eraseIdx_le Q.ws i
  omega
theorem RQ.qplus {w : World} (h : RQ w ok q Q) : RQ w (qplus ok w) q Q := by
  obtain ⟨h0, A, c, h1, h2, h3⟩ := h
  exact ⟨.inl h0, A, c, h1, h2.mono fun k _ h => .inl h, h3⟩
theorem rdrop_ok (h : RQ w ok q Q) (n : Int) : Ret Try.prog 20 [.pointer (some ⟨q, 0, none⟩), .int .i64 n] w fun v w' => v = .bool (drB Q n) ∧ RQ w' (qplus ok w) q (drQ Q n) ∧ Fr ok w w' := by
  have h0 := h
  obtain ⟨hok, A, c, h1, h2, hQ⟩ := h
  have hl := hQ.1
  apply S20_calls
  refine ⟨fun s w' => w' = w ∧ ∃ i : Nat, s.1 = (i : Int) ∧ i ≤ Q.ws.length ∧ ∀ (k : Nat) (y : Wt), k < i → Q.ws[k]? = some y → isI n y = false, fun s _ => Q.ws.length - s.1.toNat, ⟨rfl, 0, rfl, Nat.zero_le _, fun k y hk => absurd hk (Nat.not_lt_zero k)⟩, ?_⟩
  rintro J ⟨i', ⟨⟩⟩ w1 ⟨hw, i, hi, hil, hno⟩
  dsimp only at hi ⊢
  subst hi hw
  refine ⟨_, rfl, A, _, c, (h1.cell 0).trans rfl, cD (fun hlt => ?_) (fun hlt => ?_)⟩
  · have hlt' : i < Q.ws.length := by have : (i : Int) < (Q.ws.length : Int) := hlt; omega
    have hx : Q.ws[i]? = some Q.ws[i] := List.getElem?_eq_getElem hlt'
    generalize Q.ws[i] = x at hx
    obtain ⟨t, ht, _, c0, _, _⟩ := own_wt h2.rd hx
    refine ⟨_, rfl, A, _, c, (h1.cell 0).trans rfl, t, ht, by omega, by omega, _, by rw [Int.toNat_natCast]; exact c0, cD (fun he => ?_) (fun he => ?_)⟩
    · have hf := fi_some hx (show isI n x = true from decide_eq_true he) hno
      unfold drB drQ
      rw [hf]
      refine (rout_ok h0 hlt').use ?_
      rintro v w2 ⟨rfl, r2, f2⟩
      exact ⟨rfl, rfl, r2, f2⟩
    · rw [IntWalk.i64_in ((i : Int) + 1) (by omega)]
      refine ⟨⟨rfl, i + 1, rfl, by omega, fun k y hk hy => ?_⟩, by dsimp only; omega⟩
      by_cases e : k = i
      · subst e; rw [hx] at hy; cases hy; exact decide_eq_false he
      · exact hno k y (by omega) hy
  · have hge : i = Q.ws.length := by have : ¬ (i : Int) < (Q.ws.length : Int) := hlt; omega
    have hf := fi_none fun k y hy => hno k y (by rw [hge]; exact (List.getElem?_eq_some_iff.1 hy).1) hy
    unfold drB drQ
    rw [hf]
    exact ⟨rfl, h0.qplus, Fr.refl _ _⟩
theorem radd_ok (h : RQ w ok q Q) (p : Int) (hn : Q.n < 1000000) : Ret Try.prog 18 [.pointer (some ⟨q, 0, none⟩), .int .i64 p] w fun v w' => v = .tuple ⟨[.int .i64 (adI Q p), .int .i64 (adE Q p)]⟩ ∧ RQ w' (qplus ok w) q (adQ Q p) ∧ Fr ok w w' := by
  have h0 := h
  obtain ⟨hok, A, c, h1, h2, hQ⟩ := h
  obtain ⟨q1, q2, q3, q4, q5⟩ := hQ
  apply S18_calls
  have bad : adE Q p = 1 → (Value.tuple ⟨[.int .i64 0, .int .i64 1]⟩ = .tuple ⟨[.int .i64 (adI Q p), .int .i64 (adE Q p)]⟩ ∧ RQ w (qplus ok w) q (adQ Q p) ∧ Fr ok w w) := by
    intro e
    unfold adI adQ
    rw [e]
    simp only [show ¬ (1 : Int) = 0 by decide, if_false]
    exact ⟨trivial, h0.qplus, Fr.refl _ _⟩
  have k0 : ∀ b : Bool, (b = true ↔ 5 < p) → ¬ p < 0 → S18_k0 (some ⟨q, 0, none⟩) p b w (fun v w' => v = .tuple ⟨[.int .i64 (adI Q p), .int .i64 (adE Q p)]⟩ ∧ RQ w' (qplus ok w) q (adQ Q p) ∧ Fr ok w w') := by
    intro b hb hp
    refine cB (fun hc => bad (by unfold adE; rw [if_pos (.inr (hb.1 hc))])) (fun hc => ?_)
    have hp5 : ¬ 5 < p := fun e => by rw [hb.2 e] at hc; cases hc
    refine ⟨_, rfl, A, _, c, (h1.cell 0).trans rfl, cD (fun hl => ?_) (fun hl => ?_)⟩
    · have e : adE Q p = 4 := by unfold adE; rw [if_neg (by omega), if_pos (by omega)]
      unfold adI adQ
      rw [e]
      simp only [show ¬ (4 : Int) = 0 by decide, if_false]
      exact ⟨trivial, h0.qplus, Fr.refl _ _⟩
    · have e : adE Q p = 0 := by unfold adE; rw [if_neg (by omega), if_neg (by omega)]
      unfold adI adQ
      rw [e]
      simp only [if_true]
      unfold S18_k2
      have fd : Fr none1 w w.drew := Fr.drew w
      have k1 := h1.fr fd fun h => h
      have o1 := h2.fr fd fun _ _ _ h => h
      have hsd : w.heap.size ≤ w.drew.heap.size := fd.size
      generalize w.drew = w1 at k1 fd o1 hsd ⊢
      have fl : Fr none1 w1 (w1.alloc (.cells ⟨wcell ⟨Q.n, p, 0⟩⟩ 40)) := Fr.alloc _ _
      have lit := Own.lit w1 40 3 1 (wcell ⟨Q.n, p, 0⟩) rfl (by simp [maxLen])
      obtain ⟨A2, c2, w2, r2, o2, f2, _⟩ := run_append (ty := 37) (m := 1) (c2 := 1) Ewt (o1.fr fl fun _ _ _ h => h) rfl lit.rd (wcell_one _) (by omega) (by simp only [maxLen]; omega)
      have k2 := (k1.fr fl fun h => h).fr f2 fun ⟨a, ha, e⟩ => (o1.fr fl fun _ _ _ h => h).ne_blk (k1.fr fl fun h => h) (by decide) a ha e
      have f3 := setQ w2 q 0 (.slice A2 (Q.ws.length + 1) c2)
      refine ⟨_, rfl, _, rfl, _, by rw [add_g]; exact (k1.cell 1).trans rfl, A, _, c, (k1.cell 0).trans rfl, A2, _, c2, w2, r2, _, rfl, k2.has 0 (by simp [qcs]), k2.free 0, ?_⟩
      have k3 := k2.set 0 (.slice A2 (Q.ws.length + 1) c2)
      have o3 := o2.fr1 f3 fun a ha e => o2.ne_blk k2 (by decide) a ha e
      generalize w2.setCell ⟨q, 0, none⟩ (.slice A2 (Q.ws.length + 1) c2) = w3 at k3 f3 o3 ⊢
      have f4 := setQ w3 q 1 (.int .i64 ((Q.n : Int) + 1))
      have k4 := k3.set 1 (.int .i64 ((Q.n : Int) + 1))
      refine ⟨_, rfl, _, by rw [add_g]; exact (k3.cell 1).trans rfl, _, rfl, by rw [add_g]; exact k3.has 1 (by simp [qcs]), by rw [add_g]; exact k3.free 1, _, rfl, ?_⟩
      rw [add_g, IntWalk.i64_in ((Q.n : Int) + 1) (by omega)]
      refine ⟨(Q.n : Int) + 1, (k4.cell 1).trans rfl, ?_, ⟨.inl hok, A2, c2, ?_, ?_, ?_⟩, ?_⟩
      · rw [IntWalk.i64_in _ (by omega)]
        congr 4; omega
      · unfold qcs at k4 ⊢
        simpa using k4
      · have o4 := o3.fr1 f4 fun a ha e => o3.ne_blk k3 (by decide) a ha e
        rw [List.length_append, rws_append, rws_one]
        have hsl := fl.size
        exact o4.mono fun k _ h => h.imp id fun h => by omega
      · refine ⟨by simp; omega, by show Q.n + 1 ≤ 1000000; omega, q3, fun x hx => ?_, q5⟩
        rcases List.mem_append.1 hx with hx | hx
        · exact q4 x hx
        · rw [List.mem_singleton] at hx
          subst hx
          exact ⟨by show 0 ≤ p; omega, by show p ≤ 5; omega, by simp, by simp⟩
      · refine (fd.mono fun _ _ h => h.elim).trans' ((fl.mono fun _ _ h => h.elim).trans' ((f2.mono fun k _ ⟨a, ha, e⟩ => e ▸ ((o1.fr fl fun _ _ _ h => h).has a ha).1).trans' ((f3.mono fun k _ e => by subst e; exact hok).trans' (f4.mono fun k _ e => by subst e; exact hok))))
  refine cD (fun hp => ?_) (fun hp => ?_)
  · exact cT rfl (bad (by unfold adE; rw [if_pos (.inl hp)]))
  · exact k0 _ decide_eq_true_iff hp
end
end Go.Proofs
