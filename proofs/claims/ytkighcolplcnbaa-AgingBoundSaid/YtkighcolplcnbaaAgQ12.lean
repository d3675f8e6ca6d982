/- Queues that age: the reference's Next. -/
import Derived.Test.YtkighcolplcnbaaAgO12
set_option linter.unusedVariables false
namespace Go.Proofs
open Go Go.Eng
section
variable {w : World} {ok : Nat → Prop} {q : Nat} {Q : Que}
theorem rNext_ok (h : RQ w ok q Q) : Ret Try.prog 22 [.pointer (some ⟨q, 0, none⟩)] w fun v w' => v = .tuple ⟨[.int .i64 (if nxB Q then nxI Q else 0), .bool (nxB Q)]⟩ ∧ Fr none1 w w' := by
  have h0 := h
  obtain ⟨hok, A, c, h1, h2, hQ⟩ := h
  apply S22_calls
  refine (rnext_ok h0).use ?_
  rintro v w1 ⟨rfl, f1⟩
  obtain ⟨l1, l2, l3⟩ := pl_lt Q
  refine ⟨_, rfl, cD (fun hn => ?_) (fun hn => ?_)⟩
  · have e : nxB Q = false := decide_eq_false (by omega)
    rw [e]; exact ⟨rfl, f1⟩
  · have e : nxB Q = true := decide_eq_true (by omega)
    obtain ⟨m, hm⟩ := Int.eq_ofNat_of_zero_le (by omega : 0 ≤ pl Q)
    have hx : Q.ws[m]? = some Q.ws[m] := List.getElem?_eq_getElem (by omega)
    have ex : nxI Q = Q.ws[m].id := by unfold nxI; rw [hm, Int.toNat_natCast, hx]; rfl
    rw [e, ex, hm]
    have o1 := h2.fr f1 fun _ _ _ h => h
    have k1 := h1.fr f1 fun h => h
    obtain ⟨t, ht, _, c0, _, _⟩ := own_wt o1.rd hx
    exact ⟨_, rfl, A, _, c, (k1.cell 0).trans rfl, t, ht, by omega, by omega, _, by rw [Int.toNat_natCast]; exact c0, rfl, f1⟩
theorem rtake_ok (h : RQ w ok q Q) (hb : Q.b < 1000000) : Ret Try.prog 19 [.pointer (some ⟨q, 0, none⟩)] w fun v w' => v = .tuple ⟨[.int .i64 (if nxB Q then nxI Q else 0), .bool (nxB Q)]⟩ ∧ RQ w' (qplus ok w) q (tkQ Q) ∧ Fr ok w w' := by
  have h0 := h
  obtain ⟨hok, A, c, h1, h2, hQ⟩ := h
  obtain ⟨q1, q2, q3, q4, q5⟩ := hQ
  apply S19_calls
  refine (rNext_ok h0).use ?_
  rintro v w1 ⟨rfl, f1⟩
  obtain ⟨l1, l2, l3⟩ := pl_lt Q
  have f1' : Fr ok w w1 := f1.mono fun _ _ h => h.elim
  refine ⟨_, _, rfl, ?_⟩
  unfold tkQ
  cases hnx : nxB Q with
  | false => exact cT rfl ⟨rfl, (h0.fr0 f1).qplus |> fun h => by
      obtain ⟨a, A, c, b, d, e⟩ := h
      refine ⟨.inl hok, A, c, b, d.mono fun k hk h => ?_, e⟩
      rcases h with h | h
      · exact .inl h
      · omega, f1'⟩
  | true =>
    have hp0 : 0 ≤ pl Q := of_decide_eq_true hnx
    obtain ⟨m, hm⟩ := Int.eq_ofNat_of_zero_le hp0
    refine cF rfl ?_
    refine (rnext_ok (h0.fr0 f1)).use ?_
    rintro v w2 ⟨rfl, f2⟩
    rw [hm, Int.toNat_natCast]
    simp only [if_true]
    have f02 := f1.trans' f2
    have k2' := h1.fr f02 fun h => h
    have o2' := h2.fr f02 fun _ _ _ h => h
    refine ⟨_, rfl, fun s w' => ∃ i : Nat, s.1 = (i : Int) ∧ i ≤ m ∧ Blk w' q 48 (qcs A c Q) ∧ Own w' 40 3 ok A Q.ws.length c (rws wcell (bump Q.ws i)) ∧ Fr ok w w', fun s _ => m - s.1.toNat, ⟨0, rfl, Nat.zero_le _, k2', by simpa [bump] using o2', f02.mono fun _ _ h => h.elim⟩, ?_⟩
    rintro J ⟨i', ⟨⟩⟩ w3 ⟨i, hi, him, k3, o3, f3⟩
    dsimp only at hi ⊢
    subst hi
    refine cD (fun hlt => ?_) (fun hlt => ?_)
    · have hlt' : i < m := by have : (i : Int) < (m : Int) := hlt; omega
      have hxi : Q.ws[i]? = some Q.ws[i] := List.getElem?_eq_getElem (by omega)
      have hwi := q4 _ (List.mem_of_getElem? hxi)
      generalize Q.ws[i] = x at hxi hwi
      have hbx := bump_at hxi
      obtain ⟨g, hA, hg, hcl⟩ := o3.elem wcell_len hbx (by decide)
      subst hA
      have hadd : ((⟨g, 0, none⟩ : Addr).add (i * 3)).add 2 = ⟨g, i * 3 + 2, none⟩ := by rw [add_add, add_g]
      have c2 := hcl 2 _ (by decide) rfl
      refine ⟨_, rfl, _, _, c, (k3.cell 0).trans rfl, ⟨g, 0, none⟩, rfl, by omega, by omega, x.bp, by rw [Int.toNat_natCast]; exact c2, _, rfl, by omega, by omega, ?_⟩
      rw [Int.toNat_natCast, hadd] at *
      rw [IntWalk.i64_in (x.bp + 1) (by have := hwi.2.2; omega), IntWalk.i64_in ((i : Int) + 1) (by omega)]
      have os := o3.set (i * 3 + 2) (.int .i64 (x.bp + 1))
      rw [← rws_upd wcell_len (a := x) (a' := up1 x) (j := 2) (v := .int .i64 (x.bp + 1)) (by decide) rfl _ _ hbx, ← bump_succ hxi] at os
      have fs : Fr (fun k => k = g) w3 (w3.setCell ⟨g, i * 3 + 2, none⟩ (.int .i64 (x.bp + 1))) := Fr.setCell (F := fun k => k = g) w3 rfl _
      have hgq : q ≠ g := fun e => o3.ne_blk k3 (by decide) _ rfl e.symm
      exact ⟨⟨_, c2⟩, o3.free _, ⟨i + 1, rfl, by omega, k3.fr fs hgq, os, f3.trans' (fs.mono fun k _ e => by subst e; exact hg)⟩, by dsimp only; omega⟩
    · have him' : i = m := by have : ¬ (i : Int) < (m : Int) := hlt; omega
      subst him'
      have hbl := bump_len Q.ws i
      have r3 : RQ w3 ok q { Q with ws := bump Q.ws i, b := Q.b + 1 } := ⟨hok, A, c, by unfold qcs at k3 ⊢; simpa [hbl] using k3, by simp only; rw [hbl]; exact o3, by show (bump Q.ws i).length ≤ 64; omega, q2, q3, bump_mem q4, by show Q.b + 1 ≤ 1000000; omega⟩
      refine (rout_ok r3 (i := i) (by simp only; omega)).use ?_
      rintro v w4 ⟨rfl, r4, f4⟩
      refine ⟨rfl, rfl, ?_, f3.trans' f4⟩
      obtain ⟨a, A', c', b, d, e⟩ := r4
      refine ⟨.inl hok, A', c', b, d.mono fun k _ h => h.imp id fun h => Nat.le_trans f3.size h, e⟩
end
end Go.Proofs
