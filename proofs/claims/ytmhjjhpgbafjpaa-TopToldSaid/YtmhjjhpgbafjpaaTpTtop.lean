/- TopTold: what comes, and what comes back. -/
import Derived.Test.YtmhjjhpgbafjpaaTpStop
set_option linter.unusedVariables false
set_option maxRecDepth 100000
namespace Go.Proofs
open Go Go.Eng
section
variable {W w : World} {own : Nat → Nat} {a : TAd} {x : TPs} {tA dA : Option Addr} {tc dc : Nat}
theorem tosend (h : TX 0 W w own a x tA tc dA dc) (I : TInv x) {A : Option Addr} {c : Nat} {y : Bs} {ok : Nat → Prop} (hr : Rd w ok A (bvs y)) (hy : LtOk x.T y) : Ret Try.prog 22 [.pointer (some ⟨a.tb, 0, none⟩), .slice A y.length c] w fun v w' =>
    (∃ e, v = .int .i64 e) ∧ ∃ own' L, TX 0 W w' own' a { x with Lt := L } tA tc dA dc ∧ TInv { x with Lt := L } := by
  refine (nsend_ok (h.too (by decide)) rfl (by have := hy.len; omega) hr).imp ?_
  rintro v w1 (⟨_, rfl, rfl⟩ | ⟨hl, rfl, n, f⟩)
  · exact ⟨⟨_, rfl⟩, own, x.Lt, h, I⟩
  · refine ⟨⟨_, rfl⟩, _, _, (h.go (by decide) f).setTo (n.mono fun k _ hk => nxt_or hk), I.setLt (fun z hz => ?_) (by simp; omega)⟩
    rcases List.mem_append.1 hz with hz | hz
    · exact I.lt z hz
    · rw [List.mem_singleton] at hz; subst hz; exact hy
theorem fromsend (h : TX 0 W w own a x tA tc dA dc) (I : TInv x) {A : Option Addr} {c : Nat} {y : Bs} {ok : Nat → Prop} (hr : Rd w ok A (bvs y)) (hy : LfOk x.d y) : Ret Try.prog 22 [.pointer (some ⟨a.fb, 0, none⟩), .slice A y.length c] w fun v w' =>
    (∃ e, v = .int .i64 e) ∧ ∃ own' L, TX 0 W w' own' a { x with Lf := L } tA tc dA dc ∧ TInv { x with Lf := L } := by
  refine (nsend_ok (h.frm (by decide)) rfl (by have := hy.len; omega) hr).imp ?_
  rintro v w1 (⟨_, rfl, rfl⟩ | ⟨hl, rfl, n, f⟩)
  · exact ⟨⟨_, rfl⟩, own, x.Lf, h, I⟩
  · refine ⟨⟨_, rfl⟩, _, _, (h.go (by decide) f).setFrom (n.mono fun k _ hk => nxt_or hk), I.setLf (fun z hz => ?_) (by simp; omega)⟩
    rcases List.mem_append.1 hz with hz | hz
    · exact I.lf z hz
    · rw [List.mem_singleton] at hz; subst hz; exact hy
/-- The state afterwards: the same told, the same done. -/
def Nx (W : World) (a : TAd) (x : TPs) (tA : Option Addr) (tc : Nat) (dA : Option Addr) (dc : Nat) (w' : World) : Prop := ∃ own' x', TX 0 W w' own' a x' tA tc dA dc ∧ TInv x' ∧ x'.T = x.T ∧ x'.d = x.d
theorem comes_no (h : TX 0 W w own a x tA tc dA dc) (I : TInv x) : Ret Try.prog 18 [.slice none 0 0, .bool false, .pointer (some ⟨a.vr, 0, none⟩), .pointer (some ⟨a.vf, 0, none⟩)] w fun v w' => v = .tuple ⟨[]⟩ ∧ Nx W a x tA tc dA dc w' := by
  apply S18_calls
  refine (ltake_nil w).use ?_
  rintro v w1 ⟨rfl, f1⟩
  obtain ⟨⟨u1, z1, u2, z2, u3, z3⟩, bp, f2⟩ := new3 w1 58 (.bool false) (.int .u64 0) (.slice none 0 0) (.bool false) (.int .u64 0) (.slice none 0 0) _ rfl
  exact ⟨_, _, _, _, _, _, rfl, u1, z1, u2, z2, u3, z3, cT rfl (cT rfl ⟨rfl, _, x, h.fr0 (f1.trans' f2), I, rfl, rfl⟩)⟩
theorem back_no (h : TX 0 W w own a x tA tc dA dc) (I : TInv x) : Ret Try.prog 23 [.slice none 0 0, .bool false, .pointer (some ⟨a.vs, 0, none⟩), .pointer (some ⟨a.vh, 0, none⟩), .pointer (some ⟨a.vt, 0, none⟩)] w fun v w' => v = .tuple ⟨[]⟩ ∧ Nx W a x tA tc dA dc w' := by
  apply S23_calls
  refine (ltake_nil w).use ?_
  rintro v w1 ⟨rfl, f1⟩
  obtain ⟨⟨u1, z1, u2, z2, u3, z3⟩, bp, f2⟩ := new3 w1 58 (.bool false) (.int .u64 0) (.slice none 0 0) (.bool false) (.int .u64 0) (.slice none 0 0) _ rfl
  exact ⟨_, _, _, _, _, _, rfl, u1, z1, u2, z2, u3, z3, cT rfl (cT rfl ⟨rfl, _, x, h.fr0 (f1.trans' f2), I, rfl, rfl⟩)⟩
theorem comes_ok (h : TX 0 W w own a x tA tc dA dc) (I : TInv x) (hn : x.T.length ≤ 1000) {A : Option Addr} {c : Nat} {y : Bs} {ok : Nat → Prop} (hr : Rd w ok A (bvs y)) (hc : y.length ≤ c) (hy : LtOk x.T y) : Ret Try.prog 18 [.slice A y.length c, .bool true, .pointer (some ⟨a.vr, 0, none⟩), .pointer (some ⟨a.vf, 0, none⟩)] w fun v w' => v = .tuple ⟨[]⟩ ∧ Nx W a x tA tc dA dc w' := by
  obtain ⟨p, hp, rfl, hq⟩ := hy
  have l1 := I.le1
  have l2 := I.le2
  have l3 := I.le3
  have l4 := I.tr
  apply S18_calls
  refine (ltake_ok hr hc hp).use ?_
  rintro v w1 ⟨A', c', rfl, _, f1⟩
  obtain ⟨⟨u1, z1, u2, z2, u3, z3⟩, bp, f2⟩ := new3 w1 58 (.bool false) (.int .u64 0) (.slice none 0 0) (.bool p.hd) (.int .u64 (p.n : Int)) (.slice A' p.data.length c') _ rfl
  refine ⟨_, _, _, _, _, _, rfl, u1, z1, u2, z2, u3, z3, cF rfl (cF rfl ⟨_, bp.cell 0, ?_⟩)⟩
  have f12 := f1.trans' f2
  have h2 := h.fr0 f12
  have hr2 := (hr.mono (ok' := fun k => k < w.heap.size) fun k hk _ => hk).fr f12 fun _ _ _ h => h
  refine cB (fun hh => ?_) (fun hh => ?_)
  · refine ⟨_, h2.vr.2.cell 0, ?_⟩
    refine (rbheard_ok (h2.rob (by decide)) (by omega) hr2 hc hp).use ?_
    rintro v w3 ⟨⟨b, rfl⟩, hv, f3⟩
    refine ⟨_, rfl, rfl, ?_⟩
    have h3 := h2.go (by decide) f3
    by_cases hcnd : x.rt = true ∧ p.hd = true ∧ p.n = x.tr + 1
    · rw [if_pos hcnd] at hv
      exact ⟨_, _, h3.setRob (hv.mono fun k _ e => nxt_or (.inl e)), I.heard hcnd.1, rfl, rfl⟩
    · rw [if_neg hcnd] at hv
      exact ⟨_, _, h3.setRob (hv.mono fun k _ e => nxt_or (.inl e)), I, rfl, rfl⟩
  · refine ⟨_, h2.vr.2.cell 0, ?_⟩
    obtain ⟨i1, i2⟩ := I.hear hp hq
    refine (rbhear_ok (h2.rob (by decide)) (by omega) (by omega) hr2 hc hp i1).use ?_
    rintro v w3 ⟨⟨A3, c3, rfl, o3⟩, hv, f3⟩
    have h3 := h2.go (by decide) f3
    have step : ∃ own4 x', TX 0 W w3 own4 a x' tA tc dA dc ∧ TInv x' ∧ x'.T = x.T ∧ x'.d = x.d := by
      by_cases hf : hFresh p x.hr = true
      · rw [if_pos hf] at hv
        obtain ⟨z, hz, hd, r⟩ := hv
        exact ⟨_, _, h3.setRob (r.mono fun k _ e => nxt_or e), i2 hf z hz hd, rfl, rfl⟩
      · rw [if_neg hf] at hv
        exact ⟨_, _, h3.setRob (hv.mono fun k _ e => nxt_or e), I, rfl, rfl⟩
    obtain ⟨own4, x', h4, I4, e1, e2⟩ := step
    refine ⟨_, _, _, rfl, cD (fun hl => ?_) (fun hl => ⟨rfl, own4, x', h4, I4, e1, e2⟩)⟩
    refine ⟨_, h4.vf.2.cell 0, ?_⟩
    refine (fromsend h4 I4 o3.rd (back_lf hp (by omega))).use ?_
    rintro v w5 ⟨⟨e, rfl⟩, own', L, h5, I5⟩
    exact ⟨_, rfl, rfl, own', _, h5, I5, e1, e2⟩
theorem back_ok (h : TX 0 W w own a x tA tc dA dc) (I : TInv x) (hn : x.T.length ≤ 1000) {A : Option Addr} {c : Nat} {y : Bs} {ok : Nat → Prop} (hr : Rd w ok A (bvs y)) (hc : y.length ≤ c) (hy : LfOk x.d y) : Ret Try.prog 23 [.slice A y.length c, .bool true, .pointer (some ⟨a.vs, 0, none⟩), .pointer (some ⟨a.vh, 0, none⟩), .pointer (some ⟨a.vt, 0, none⟩)] w fun v w' => v = .tuple ⟨[]⟩ ∧ Nx W a x tA tc dA dc w' := by
  obtain ⟨p, hp, rfl, hq⟩ := hy
  have l1 := I.hh1
  have l2 := I.ts
  have l3 := I.le1
  have l4 := I.le2
  apply S23_calls
  refine (ltake_ok hr hc hp).use ?_
  rintro v w1 ⟨A', c', rfl, _, f1⟩
  obtain ⟨⟨u1, z1, u2, z2, u3, z3⟩, bp, f2⟩ := new3 w1 58 (.bool false) (.int .u64 0) (.slice none 0 0) (.bool p.hd) (.int .u64 (p.n : Int)) (.slice A' p.data.length c') _ rfl
  refine ⟨_, _, _, _, _, _, rfl, u1, z1, u2, z2, u3, z3, cF rfl (cF rfl ⟨_, bp.cell 0, ?_⟩)⟩
  have f12 := f1.trans' f2
  have h2 := h.fr0 f12
  have hr2 := (hr.mono (ok' := fun k => k < w.heap.size) fun k hk _ => hk).fr f12 fun _ _ _ h => h
  refine cB (fun hh => ?_) (fun hh => ?_)
  · refine ⟨_, h2.vs.2.cell 0, ?_⟩
    have hs := h2.snd (by decide)
    refine (shear_ok hs (by omega) hr2 hc hp).use ?_
    rintro v w3 ⟨hv, f3⟩
    have h3 := h2.go (by decide) (FrOne f3 hs.1)
    by_cases hcnd : x.st = true ∧ p.hd = true ∧ p.n = x.ts + 1
    · rw [if_pos hcnd] at hv
      obtain ⟨rfl, hv⟩ := hv
      exact ⟨_, rfl, rfl, _, _, h3.setSnd (hv.mono fun k _ e => nxt_or (.inl e)), I.sheard hcnd.1, rfl, rfl⟩
    · rw [if_neg hcnd] at hv
      obtain ⟨rfl, hv⟩ := hv
      exact ⟨_, rfl, rfl, _, _, h3.setSnd (hv.mono fun k _ e => nxt_or (.inl e)), I, rfl, rfl⟩
  · refine ⟨_, h2.vh.2.cell 0, ?_⟩
    have hs := h2.rcv (by decide)
    refine (rhear_ok hs.2 (by omega) hr2 hc hp).use ?_
    rintro v w3 ⟨⟨A3, c3, A4, c4, rfl, _, o4⟩, hv, f3⟩
    have h3 := (h2.go (by decide) (FrOne f3 hs.1)).setRcv ⟨nxt_or (.inl hs.1), hv⟩
    have I3 := I.hhear hq
    refine ⟨_, _, _, _, _, _, _, rfl, cD (fun hl => ?_) (fun hl => ⟨rfl, _, _, h3, I3, rfl, rfl⟩)⟩
    refine ⟨_, h3.vt.2.cell 0, ?_⟩
    refine (tosend h3 I3 o4.rd (back_lt hp (by omega))).use ?_
    rintro v w5 ⟨⟨e, rfl⟩, own', L, h5, I5⟩
    exact ⟨_, rfl, rfl, own', _, h5, I5, rfl, rfl⟩
end
end Go.Proofs
