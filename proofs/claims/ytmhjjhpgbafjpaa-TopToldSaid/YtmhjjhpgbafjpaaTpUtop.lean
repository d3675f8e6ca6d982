/- TopTold: one step, and what is looked at after it. -/
import Derived.Test.YtmhjjhpgbafjpaaTpTtop
set_option linter.unusedVariables false
set_option maxRecDepth 100000
namespace Go.Proofs
open Go Go.Eng
theorem u64_in {n : Nat} (h : n ≤ 1000000) : IntKind.u64.wrap (n : Int) = (n : Int) := by
  simp [IntKind.wrap, IntKind.bits, IntKind.signed]; omega
abbrev va (k : Nat) : Addr := ⟨k, 0, none⟩
section
variable {W w : World} {own : Nat → Nat} {a : TAd} {x : TPs} {tA dA : Option Addr} {tc dc : Nat}
variable {lA : Option Addr} {ll lc : Nat} {n : Int} {i : Nat} {R : Value → World → Prop} {B1 : (Option Addr × Nat × Nat) × (Option Addr × Nat × Nat) × (Int) × Unit → World → Prop}
theorem told_k10 (h : TX 0 W w own a x tA tc dA dc) (I : TInv x) (hn : x.T.length ≤ 1000) (hi : i ≤ 1000) (hB : ∀ w' own', TX 0 W w' own' a x tA tc dA dc → B1 ((tA, x.T.length, tc), (dA, x.d, dc), ((i + 1 : Nat) : Int), ()) w') :
    S4_k10 (va a.vr) (va a.vs) (va a.vh) (va a.vt) (va a.vf) tA x.T.length tc dA x.d dc (va a.vr) (va a.vf) (va a.vs) (va a.vh) (va a.vt) lA ll lc n (i : Int) false w R B1 := by
  have hdl : x.d ≤ x.T.length := Nat.le_trans I.le1 I.le2
  refine cF rfl ⟨fun s w' => ∃ (k : Nat) (own' : Nat → Nat), s.1 = (k : Int) ∧ k ≤ x.d ∧ TX 0 W w' own' a x tA tc dA dc, fun s _ => x.d - s.1.toNat, ⟨0, own, rfl, Nat.zero_le _, h⟩, ?_⟩
  rintro J ⟨k', ⟨⟩⟩ w1 ⟨k, own', hk, hkd, h1⟩
  dsimp only at hk ⊢
  subst hk
  refine cD (fun hlt => ?_) (fun hlt => ?_)
  · have hlt' : k < x.d := by have : (k : Int) < (x.d : Int) := hlt; omega
    have hz : x.T[k]? = some x.T[k] := List.getElem?_eq_getElem (by omega)
    generalize x.T[k] = z at hz
    have hz' : (x.T.take x.d)[k]? = some z := by rw [List.getElem?_take, if_pos hlt']; exact hz
    have h2 := h1.fr0 (Fr.drew w1)
    obtain ⟨t1, e1, p0, p1, p2⟩ := own_act (h2.dne (by decide)) hz'
    obtain ⟨t2, e2, q0, q1, q2⟩ := own_act (h2.tld (by decide)) hz
    refine ⟨t1, e1, by omega, by omega, _, by rw [Int.toNat_natCast]; exact p0, _, by rw [Int.toNat_natCast]; exact p1, _, by rw [Int.toNat_natCast]; exact p2, t2, e2, by omega, by omega, _, by rw [Int.toNat_natCast]; exact q0, _, by rw [Int.toNat_natCast]; exact q1, _, by rw [Int.toNat_natCast]; exact q2, _, _, act_ne z z _ _ w1.drew, ?_⟩
    rw [decide_eq_true rfl]
    refine cF rfl ?_
    rw [IntWalk.i64_in _ (by omega)]
    exact ⟨⟨k + 1, _, rfl, by omega, h2⟩, by dsimp only; omega⟩
  · rw [IntWalk.i64_in _ (by omega)]
    exact hB w1 own' h1
theorem told_k9 (h : TX 0 W w own a x tA tc dA dc) (I : TInv x) (hn : x.T.length ≤ 1000) (hi : i ≤ 1000) (hB : ∀ w' own', TX 0 W w' own' a x tA tc dA dc → B1 ((tA, x.T.length, tc), (dA, x.d, dc), ((i + 1 : Nat) : Int), ()) w') :
    S4_k9 (va a.vr) (va a.vs) (va a.vh) (va a.vt) (va a.vf) tA x.T.length tc dA x.d dc (va a.vr) (va a.vf) (va a.vs) (va a.vh) (va a.vt) lA ll lc n (i : Int) w R B1 := by
  have hdl : x.d ≤ x.T.length := Nat.le_trans I.le1 I.le2
  have l1 := I.le3
  have l2 := I.hh1
  have l3 := I.hh2
  have l4 := I.dn
  refine cF (decide_eq_false (by omega)) ?_
  rw [IntWalk.i64_in _ (by omega)]
  refine cF (decide_eq_false (by omega)) ?_
  have h1 := h.fr0 (Fr.drew w)
  generalize nxt own w.heap.size 0 = own1 at h1
  generalize World.drew w = w1 at h1
  have K : ∀ {b : Bool}, b = false → S4_k10 (va a.vr) (va a.vs) (va a.vh) (va a.vt) (va a.vf) tA x.T.length tc dA x.d dc (va a.vr) (va a.vf) (va a.vs) (va a.vh) (va a.vt) lA ll lc n (i : Int) b w1 R B1 := fun e => by subst e; exact told_k10 h1 I hn hi hB
  refine ⟨_, h1.vr.2.cell 0, ?_⟩
  refine (rbdone_ok (h1.rob (by decide))).use ?_
  rintro v w2 ⟨rfl, rfl⟩
  rw [u64_in (by omega)]
  refine ⟨_, rfl, cF (by rw [decide_eq_true (by omega)]; rfl) ⟨_, h1.vh.2.cell 0, ?_⟩⟩
  have hc : Ret Try.prog 27 [.pointer (some ⟨a.hb, 0, none⟩)] w2 fun v w' => v = .int .u64 (x.hh : Int) ∧ w' = w2 := heard_ok (h1.rcv (by decide)).2
  have hd : Ret Try.prog 37 [.pointer (some ⟨a.rb, 0, none⟩)] w2 fun v w' => v = .int .u64 (x.dn : Int) ∧ w' = w2 := rbdone_ok (h1.rob (by decide))
  have last : decide (IntKind.u64.wrap ((x.hh : Int) + 1) < (x.dn : Int)) = false := by rw [u64_succ (by omega)]; exact decide_eq_false (by omega)
  refine ⟨?_, ?_⟩
  · refine hc.use ?_
    rintro v w3 ⟨rfl, rfl⟩
    refine ⟨_, rfl, _, h1.vr.2.cell 0, ?_⟩
    refine hd.use ?_
    rintro v w4 ⟨rfl, rfl⟩
    refine ⟨_, rfl, cF (decide_eq_false (by omega)) ⟨_, h1.vh.2.cell 0, ?_, ?_⟩⟩
    · refine hc.use ?_
      rintro v w5 ⟨rfl, rfl⟩
      refine ⟨_, rfl, _, h1.vr.2.cell 0, ?_⟩
      refine hd.use ?_
      rintro v w6 ⟨rfl, rfl⟩
      exact ⟨_, rfl, K last⟩
    · refine ⟨_, h1.vr.2.cell 0, ?_⟩
      refine hc.use ?_
      rintro v w5 ⟨rfl, rfl⟩
      refine ⟨_, rfl, ?_⟩
      refine hd.use ?_
      rintro v w6 ⟨rfl, rfl⟩
      exact ⟨_, rfl, K last⟩
  · refine ⟨_, h1.vr.2.cell 0, ?_⟩
    refine hc.use ?_
    rintro v w3 ⟨rfl, rfl⟩
    refine ⟨_, rfl, ?_⟩
    refine hd.use ?_
    rintro v w4 ⟨rfl, rfl⟩
    refine ⟨_, rfl, cF (decide_eq_false (by omega)) ⟨_, h1.vh.2.cell 0, ?_, ?_⟩⟩
    · refine hc.use ?_
      rintro v w5 ⟨rfl, rfl⟩
      refine ⟨_, rfl, _, h1.vr.2.cell 0, ?_⟩
      refine hd.use ?_
      rintro v w6 ⟨rfl, rfl⟩
      exact ⟨_, rfl, K last⟩
    · refine ⟨_, h1.vr.2.cell 0, ?_⟩
      refine hc.use ?_
      rintro v w5 ⟨rfl, rfl⟩
      refine ⟨_, rfl, ?_⟩
      refine hd.use ?_
      rintro v w6 ⟨rfl, rfl⟩
      exact ⟨_, rfl, K last⟩
end
end Go.Proofs
