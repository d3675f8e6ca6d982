/- TopTold: all steps. -/
import Derived.Test.YtmhjjhpgbafjpaaTpWtop
set_option linter.unusedVariables false
set_option maxRecDepth 100000
namespace Go.Proofs
open Go Go.Eng
section
variable {W w : World} {own : Nat → Nat} {a : TAd} {x : TPs} {tA dA : Option Addr} {tc dc : Nat}
variable {lA : Option Addr} {ll lc : Nat} {n : Int} {i : Nat} {R : Value → World → Prop} {B1 : (Option Addr × Nat × Nat) × (Option Addr × Nat × Nat) × (Int) × Unit → World → Prop}
theorem mem_erase {L : List Bs} {P : Bs → Prop} (h : ∀ y ∈ L, P y) (j : Nat) : ∀ y ∈ L.eraseIdx j, P y := fun y hy => h y (List.mem_of_mem_eraseIdx hy)
theorem told_lt (M : TMore W a i B1) {L : List Bs} (h : TX 0 W w own a { x with Lt := L } tA tc dA dc) (I : TInv { x with Lt := L }) (hn : x.T.length ≤ i) (hi : i < 200) :
    S4_k9 (va a.vr) (va a.vs) (va a.vh) (va a.vt) (va a.vf) tA x.T.length tc dA x.d dc (va a.vr) (va a.vf) (va a.vs) (va a.vh) (va a.vt) lA ll lc n (i : Int) w R B1 := by
  have k := told_m (lA := lA) (ll := ll) (lc := lc) (n := n) (R := R) M h I (by dsimp only; omega) hi
  exact k
theorem told_lf (M : TMore W a i B1) {L : List Bs} (h : TX 0 W w own a { x with Lf := L } tA tc dA dc) (I : TInv { x with Lf := L }) (hn : x.T.length ≤ i) (hi : i < 200) :
    S4_k9 (va a.vr) (va a.vs) (va a.vh) (va a.vt) (va a.vf) tA x.T.length tc dA x.d dc (va a.vr) (va a.vf) (va a.vs) (va a.vh) (va a.vt) lA ll lc n (i : Int) w R B1 := by
  have k := told_m (lA := lA) (ll := ll) (lc := lc) (n := n) (R := R) M h I (by dsimp only; omega) hi
  exact k
theorem told_c8 (M : TMore W a i B1) (h : TX 0 W w own a x tA tc dA dc) (I : TInv x) (hn : x.T.length ≤ i) (hi : i < 200) :
    ∃ p : Option Addr, w.cell? (va a.vr) = some (.pointer p) ∧ Calls Try.prog 34 ⟨[.pointer p]⟩ w fun e w1 =>
      ∃ k c q b, e = .returned (.tuple ⟨[.agg ⟨[.int .u8 k, .int .i64 c, .int .i64 q]⟩, .bool b]⟩) ∧
      (∃ u, (w1.alloc (.cells ⟨[.int .u8 0, .int .i64 0, .int .i64 0]⟩ 67)).cell? ⟨w1.heap.size, 0, none⟩ = some u) ∧ (w1.alloc (.cells ⟨[.int .u8 0, .int .i64 0, .int .i64 0]⟩ 67)).frozen? ⟨w1.heap.size, 0, none⟩ = false ∧
      (∃ u, ((w1.alloc (.cells ⟨[.int .u8 0, .int .i64 0, .int .i64 0]⟩ 67)).setCell ⟨w1.heap.size, 0, none⟩ (.int .u8 k)).cell? ⟨w1.heap.size, 1, none⟩ = some u) ∧ ((w1.alloc (.cells ⟨[.int .u8 0, .int .i64 0, .int .i64 0]⟩ 67)).setCell ⟨w1.heap.size, 0, none⟩ (.int .u8 k)).frozen? ⟨w1.heap.size, 1, none⟩ = false ∧
      (∃ u, (((w1.alloc (.cells ⟨[.int .u8 0, .int .i64 0, .int .i64 0]⟩ 67)).setCell ⟨w1.heap.size, 0, none⟩ (.int .u8 k)).setCell ⟨w1.heap.size, 1, none⟩ (.int .i64 c)).cell? ⟨w1.heap.size, 2, none⟩ = some u) ∧ (((w1.alloc (.cells ⟨[.int .u8 0, .int .i64 0, .int .i64 0]⟩ 67)).setCell ⟨w1.heap.size, 0, none⟩ (.int .u8 k)).setCell ⟨w1.heap.size, 1, none⟩ (.int .i64 c)).frozen? ⟨w1.heap.size, 2, none⟩ = false ∧
      ∃ p1 : Option Addr, ((((w1.alloc (.cells ⟨[.int .u8 0, .int .i64 0, .int .i64 0]⟩ 67)).setCell ⟨w1.heap.size, 0, none⟩ (.int .u8 k)).setCell ⟨w1.heap.size, 1, none⟩ (.int .i64 c)).setCell ⟨w1.heap.size, 2, none⟩ (.int .i64 q)).cell? (va a.vr) = some (.pointer p1) ∧
      Calls Try.prog 35 ⟨[.pointer p1]⟩ ((((w1.alloc (.cells ⟨[.int .u8 0, .int .i64 0, .int .i64 0]⟩ 67)).setCell ⟨w1.heap.size, 0, none⟩ (.int .u8 k)).setCell ⟨w1.heap.size, 1, none⟩ (.int .i64 c)).setCell ⟨w1.heap.size, 2, none⟩ (.int .i64 q)) fun e w2 =>
        ∃ b2, e = .returned (.bool b2) ∧ cond b2 (
          ∃ k2, w2.cell? ⟨w1.heap.size, 0, none⟩ = some (.int .u8 k2) ∧ ∃ c2, w2.cell? ⟨w1.heap.size, 1, none⟩ = some (.int .i64 c2) ∧ ∃ q2, w2.cell? ⟨w1.heap.size, 2, none⟩ = some (.int .i64 q2) ∧
          ∃ A' l' c' w3, (Builtin.append_ #[56, 56] 56 ⟨[.slice dA x.d dc, .slice (some ⟨w2.heap.size, 0, none⟩) 1 1]⟩).run Try.prog (w2.alloc (.cells ⟨[.int .u8 k2, .int .i64 c2, .int .i64 q2]⟩ 67)) = .ok (.slice A' l' c') w3 ∧
            S4_k9 (va a.vr) (va a.vs) (va a.vh) (va a.vt) (va a.vf) tA x.T.length tc A' l' c' (va a.vr) (va a.vf) (va a.vs) (va a.vh) (va a.vt) lA ll lc n (i : Int) w3 R B1)
          (S4_k9 (va a.vr) (va a.vs) (va a.vh) (va a.vt) (va a.vf) tA x.T.length tc dA x.d dc (va a.vr) (va a.vf) (va a.vs) (va a.vh) (va a.vt) lA ll lc n (i : Int) w2 R B1) := by
  have l0 := I.dn
  have l1 := I.le1
  have l2 := I.le2
  have l3 := I.tr
  refine ⟨_, h.vr.2.cell 0, ?_⟩
  refine (rbnext_ok (h.rob (by decide))).use ?_
  rintro v w1 ⟨rfl, f1⟩
  generalize hz : x.act.getD ac0 = z
  obtain ⟨⟨u1, z1, u2, z2, u3, z3⟩, bp, f2⟩ := new3 w1 67 (.int .u8 0) (.int .i64 0) (.int .i64 0) (.int .u8 z.k) (.int .i64 z.c) (.int .i64 z.p) _ rfl
  refine ⟨_, _, _, _, rfl, u1, z1, u2, z2, u3, z3, ?_⟩
  have f12 := f1.trans' f2
  have hs := f1.size
  have h2 := h.fr0 f12
  have bo : nxt own w.heap.size 0 w1.heap.size = 0 := nxt_or (.inr hs)
  generalize nxt own w.heap.size 0 = own2 at h2 bo
  generalize ((((w1.alloc (.cells ⟨[.int .u8 0, .int .i64 0, .int .i64 0]⟩ 67)).setCell ⟨w1.heap.size, 0, none⟩ (.int .u8 z.k)).setCell ⟨w1.heap.size, 1, none⟩ (.int .i64 z.c)).setCell ⟨w1.heap.size, 2, none⟩ (.int .i64 z.p)) = w3 at h2 bp
  refine ⟨_, h2.vr.2.cell 0, ?_⟩
  refine (rbstep_ok (h2.rob (by decide)) (by omega) (by omega) (fun hne => ?_)).use ?_
  · rcases I.act with ⟨_, e⟩ | ⟨_, _, e⟩
    · exact absurd e hne
    · exact e
  · rintro v w4 ⟨b, rfl, hv, f4⟩
    have h4 := h2.go (by decide) f4
    have bp4 := (BlkKeep ⟨bo, bp⟩ f4 (by decide)).2
    refine ⟨_, rfl, cB (fun hb => ?_) (fun hb => ?_)⟩
    · rw [hb, if_pos rfl] at hv
      obtain ⟨hne, r⟩ := hv
      obtain ⟨I5, y, hy1, hy2⟩ := I.step hne
      have ey : z = y := by rw [← hz, hy2]; rfl
      subst ey
      have h5 := h4.setRob (r.mono fun k _ e => nxt_or e)
      obtain ⟨A', c', w6, r6, h6⟩ := h5.did (z := z) hy1 (by dsimp only; omega)
      exact ⟨_, bp4.cell 0, _, bp4.cell 1, _, bp4.cell 2, A', _, c', w6, r6, told_m M h6 I5 (by dsimp only; omega) hi⟩
    · rw [hb] at hv
      have hv' : RobAt w4 (fun k => own2 k = 1 ∨ w3.heap.size ≤ k) a.rb x.act x.dn x.hr x.tr x.rt := hv
      exact told_m M (h4.setRob (hv'.mono fun k _ e => nxt_or e)) I (by omega) hi
theorem told_k4 (M : TMore W a i B1) (h : TX 0 W w own a x tA tc dA dc) (I : TInv x) (hn : x.T.length ≤ i) (hi : i < 200) {s : Sp} {pb : Nat} (bp : own pb = 0 ∧ Blk w pb 69 (scell s)) :
    S4_k4 (va a.vr) (va a.vs) (va a.vh) (va a.vt) (va a.vf) tA x.T.length tc dA x.d dc (va a.vr) (va a.vf) (va a.vs) (va a.vh) (va a.vt) (va pb) lA ll lc n (i : Int) w R B1 := by
  have l0 := I.dn
  have l1 := I.le1
  have l2 := I.le2
  have l3 := I.tr
  have l4 := I.ts
  have l5 := I.hh1
  refine ⟨_, bp.2.cell 0, by decide, cD (fun _ => ?_) (fun _ => cD (fun _ => ?_) (fun _ => cD (fun _ => ?_) (fun _ => cD (fun _ => ?_) (fun _ => cD (fun _ => ?_) (fun _ => cD (fun _ => ?_) (fun _ => cD (fun _ => ?_) (fun _ => cD (fun _ => ?_) (fun _ => cD (fun _ => ?_) (fun _ => ?_)))))))))⟩
  · -- told
    refine ⟨_, by rw [add_g]; exact bp.2.cell 1, _, by rw [add_g, add_go]; exact bp.2.cell 2, _, by rw [add_g, add_go]; exact bp.2.cell 3, ?_⟩
    refine (alay_ok s.z w).use ?_
    rintro v w1 ⟨A, c, rfl, o, f⟩
    have h1 := h.fr0 f
    refine ⟨_, _, _, _, rfl, ?_⟩
    by_cases hm : may s.z
    · have ev : alayV s.z = (pk (ab s.z), 0) := if_pos hm
      rw [ev] at o ⊢
      refine cF rfl ⟨_, h1.vh.2.cell 0, ?_⟩
      refine (heard_ok (h1.rcv (by decide)).2).use ?_
      rintro v w2 ⟨rfl, rfl⟩
      refine ⟨_, rfl, ?_⟩
      rw [u64_in (by omega)]
      by_cases hh : x.hh = x.T.length
      · rw [decide_eq_true (by omega : (x.hh : Int) = (x.T.length : Int))]
        exact cF rfl (told_k6 M h1 I hn hi ⟨by rw [nxt_lt bp.2.lt]; exact bp.1, bp.2.fr f fun h => h⟩ hm hh (o.rd.mono fun k _ hk => nxt_or (.inr hk.1)))
      · rw [decide_eq_false (by omega : ¬ (x.hh : Int) = (x.T.length : Int))]
        exact told_k5 M h1 I hn hi
    · have ev : alayV s.z = ([], 1) := if_neg hm
      rw [ev]
      exact cT rfl (told_k5 M h1 I hn hi)
  · -- sent
    refine ⟨_, h.vs.2.cell 0, ?_⟩
    have hsn := h.snd (by decide)
    by_cases hs : x.st = true
    · obtain ⟨z, hz1, hz2⟩ := I.sd hs
      have hsd : x.sd.length ≤ 200 := by rw [hz2, pkab_len]; omega
      refine (spacket_ok hsn (by omega) hsd).use ?_
      rintro v w1 ⟨hv, f1⟩
      rw [if_pos hs] at hv
      obtain ⟨A, c, rfl, o⟩ := hv
      have h1 := h.fr0 f1
      refine ⟨_, _, _, _, rfl, cT rfl ⟨_, h1.vt.2.cell 0, ?_⟩⟩
      refine (tosend h1 I o.rd (I.spk hs (by omega))).use ?_
      rintro v w2 ⟨⟨e, rfl⟩, own', L, h2, I2⟩
      exact ⟨_, rfl, told_lt M h2 I2 hn hi⟩
    · have hs' : x.st = false := by cases h : x.st; rfl; exact absurd h hs
      rw [hs'] at hsn
      refine (spacket0 hsn).use ?_
      rintro v w1 ⟨rfl, rfl⟩
      exact ⟨_, _, _, _, rfl, cF rfl (told_m M h I (by omega) hi)⟩
  · -- taken, to the robot
    refine ⟨_, h.vt.2.cell 0, _, by rw [add_g]; exact bp.2.cell 4, ?_⟩
    refine (ntake_ok (h.too (by decide)) I.ltn s.i).use ?_
    intro v w1 hv
    cases hl : look x.Lt s.i with
    | none =>
      rw [hl] at hv
      obtain ⟨rfl, g, f⟩ := hv
      refine ⟨_, _, _, _, rfl, ?_⟩
      refine (comes_no (h.fr0 f) I).use ?_
      rintro v w2 ⟨rfl, nx⟩
      exact ⟨rfl, told_n M nx hn hi⟩
    | some y =>
      rw [hl] at hv
      obtain ⟨A, c, rfl, o, g, f⟩ := hv
      refine ⟨_, _, _, _, rfl, ?_⟩
      have h1 := (h.go (by decide) f).setTo (g.mono fun k _ e => nxt_or (.inl e))
      have I1 := I.setLt (mem_erase I.lt s.i.toNat) (Nat.le_trans (List.length_eraseIdx_le _ _) I.ltn)
      refine (comes_ok h1 I1 (by dsimp only; omega) o.rd o.le (I.lt y (look_mem hl))).use ?_
      rintro v w2 ⟨rfl, nx⟩
      exact ⟨rfl, told_n M nx hn hi⟩
  · -- taken, back
    refine ⟨_, h.vf.2.cell 0, _, by rw [add_g]; exact bp.2.cell 4, ?_⟩
    refine (ntake_ok (h.frm (by decide)) I.lfn s.i).use ?_
    intro v w1 hv
    cases hl : look x.Lf s.i with
    | none =>
      rw [hl] at hv
      obtain ⟨rfl, g, f⟩ := hv
      refine ⟨_, _, _, _, rfl, ?_⟩
      refine (back_no (h.fr0 f) I).use ?_
      rintro v w2 ⟨rfl, nx⟩
      exact ⟨rfl, told_n M nx hn hi⟩
    | some y =>
      rw [hl] at hv
      obtain ⟨A, c, rfl, o, g, f⟩ := hv
      refine ⟨_, _, _, _, rfl, ?_⟩
      have h1 := (h.go (by decide) f).setFrom (g.mono fun k _ e => nxt_or (.inl e))
      have I1 := I.setLf (mem_erase I.lf s.i.toNat) (Nat.le_trans (List.length_eraseIdx_le _ _) I.lfn)
      refine (back_ok h1 I1 (by dsimp only; omega) o.rd o.le (I.lf y (look_mem hl))).use ?_
      rintro v w2 ⟨rfl, nx⟩
      exact ⟨rfl, told_n M nx hn hi⟩
  · -- comes and stays
    refine ⟨_, h.vt.2.cell 0, _, by rw [add_g]; exact bp.2.cell 4, ?_⟩
    refine (npeek_ok (h.too (by decide)) s.i).use ?_
    rintro v w1 ⟨hv, f⟩
    cases hl : look x.Lt s.i with
    | none =>
      rw [hl] at hv
      have hv : v = _ := hv
      subst hv
      refine ⟨_, _, _, _, rfl, ?_⟩
      refine (comes_no (h.fr0 f) I).use ?_
      rintro v w2 ⟨rfl, nx⟩
      exact ⟨rfl, told_n M nx hn hi⟩
    | some y =>
      rw [hl] at hv
      obtain ⟨A, c, rfl, o⟩ := hv
      refine ⟨_, _, _, _, rfl, ?_⟩
      refine (comes_ok (h.fr0 f) I (by omega) o.rd o.le (I.lt y (look_mem hl))).use ?_
      rintro v w2 ⟨rfl, nx⟩
      exact ⟨rfl, told_n M nx hn hi⟩
  · refine ⟨_, h.vf.2.cell 0, _, by rw [add_g]; exact bp.2.cell 4, ?_⟩
    refine (npeek_ok (h.frm (by decide)) s.i).use ?_
    rintro v w1 ⟨hv, f⟩
    cases hl : look x.Lf s.i with
    | none =>
      rw [hl] at hv
      have hv : v = _ := hv
      subst hv
      refine ⟨_, _, _, _, rfl, ?_⟩
      refine (back_no (h.fr0 f) I).use ?_
      rintro v w2 ⟨rfl, nx⟩
      exact ⟨rfl, told_n M nx hn hi⟩
    | some y =>
      rw [hl] at hv
      obtain ⟨A, c, rfl, o⟩ := hv
      refine ⟨_, _, _, _, rfl, ?_⟩
      refine (back_ok (h.fr0 f) I (by omega) o.rd o.le (I.lf y (look_mem hl))).use ?_
      rintro v w2 ⟨rfl, nx⟩
      exact ⟨rfl, told_n M nx hn hi⟩
  · -- lost
    refine ⟨_, h.vt.2.cell 0, _, by rw [add_g]; exact bp.2.cell 4, ?_⟩
    refine (nlose_ok (h.too (by decide)) I.ltn s.i).use ?_
    intro v w1 hv
    cases hl : look x.Lt s.i with
    | none =>
      rw [hl] at hv
      obtain ⟨rfl, g, f⟩ := hv
      exact ⟨_, rfl, told_m M (h.fr0 f) I (by omega) hi⟩
    | some y =>
      rw [hl] at hv
      obtain ⟨rfl, g, f⟩ := hv
      exact ⟨_, rfl, told_lt M ((h.go (by decide) f).setTo (g.mono fun k _ e => nxt_or (.inl e))) (I.setLt (mem_erase I.lt s.i.toNat) (Nat.le_trans (List.length_eraseIdx_le _ _) I.ltn)) hn hi⟩
  · refine ⟨_, h.vf.2.cell 0, _, by rw [add_g]; exact bp.2.cell 4, ?_⟩
    refine (nlose_ok (h.frm (by decide)) I.lfn s.i).use ?_
    intro v w1 hv
    cases hl : look x.Lf s.i with
    | none =>
      rw [hl] at hv
      obtain ⟨rfl, g, f⟩ := hv
      exact ⟨_, rfl, told_m M (h.fr0 f) I (by omega) hi⟩
    | some y =>
      rw [hl] at hv
      obtain ⟨rfl, g, f⟩ := hv
      exact ⟨_, rfl, told_lf M ((h.go (by decide) f).setFrom (g.mono fun k _ e => nxt_or (.inl e))) (I.setLf (mem_erase I.lf s.i.toNat) (Nat.le_trans (List.length_eraseIdx_le _ _) I.lfn)) hn hi⟩
  · exact told_c8 M h I hn hi
  · -- the robot tells
    refine ⟨_, h.vr.2.cell 0, ?_⟩
    refine (rbpacket_ok (h.rob (by decide)) (by omega)).use ?_
    rintro v w1 ⟨hv, f⟩
    have h1 := h.fr0 f
    by_cases hs : x.rt = true
    · rw [if_pos hs] at hv
      obtain ⟨A, c, rfl, o⟩ := hv
      refine ⟨_, _, _, _, rfl, cT rfl ⟨_, h1.vf.2.cell 0, ?_⟩⟩
      refine (fromsend h1 I o.rd (I.rpk hs (by omega))).use ?_
      rintro v w2 ⟨⟨e, rfl⟩, own', L, h2, I2⟩
      exact ⟨_, rfl, told_lf M h2 I2 hn hi⟩
    · rw [if_neg hs] at hv
      subst hv
      exact ⟨_, _, _, _, rfl, cF rfl (told_m M h1 I (by omega) hi)⟩
end
end Go.Proofs
