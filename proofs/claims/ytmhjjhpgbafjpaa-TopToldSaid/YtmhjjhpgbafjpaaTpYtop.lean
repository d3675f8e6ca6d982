/- TopTold: the law. -/
import Derived.Test.YtmhjjhpgbafjpaaTpXtop
set_option linter.unusedVariables false
set_option maxRecDepth 100000
set_option linter.unusedSectionVars false
namespace Go.Eng
open Go
/-- A struct of five cells, newly made and written. -/
theorem new5 (w : World) (t : TypeId) (a b c d e x y z u v : Value) : ∀ W, W = (((((w.alloc (.cells ⟨[a, b, c, d, e]⟩ t)).setCell ⟨w.heap.size, 0, none⟩ x).setCell ⟨w.heap.size, 1, none⟩ y).setCell ⟨w.heap.size, 2, none⟩ z).setCell ⟨w.heap.size, 3, none⟩ u).setCell ⟨w.heap.size, 4, none⟩ v →
    ((∃ u, (w.alloc (.cells ⟨[a, b, c, d, e]⟩ t)).cell? ⟨w.heap.size, 0, none⟩ = some u) ∧ (w.alloc (.cells ⟨[a, b, c, d, e]⟩ t)).frozen? ⟨w.heap.size, 0, none⟩ = false ∧
      (∃ u, ((w.alloc (.cells ⟨[a, b, c, d, e]⟩ t)).setCell ⟨w.heap.size, 0, none⟩ x).cell? ⟨w.heap.size, 1, none⟩ = some u) ∧ ((w.alloc (.cells ⟨[a, b, c, d, e]⟩ t)).setCell ⟨w.heap.size, 0, none⟩ x).frozen? ⟨w.heap.size, 1, none⟩ = false ∧
      (∃ u, (((w.alloc (.cells ⟨[a, b, c, d, e]⟩ t)).setCell ⟨w.heap.size, 0, none⟩ x).setCell ⟨w.heap.size, 1, none⟩ y).cell? ⟨w.heap.size, 2, none⟩ = some u) ∧ (((w.alloc (.cells ⟨[a, b, c, d, e]⟩ t)).setCell ⟨w.heap.size, 0, none⟩ x).setCell ⟨w.heap.size, 1, none⟩ y).frozen? ⟨w.heap.size, 2, none⟩ = false ∧
      (∃ u, ((((w.alloc (.cells ⟨[a, b, c, d, e]⟩ t)).setCell ⟨w.heap.size, 0, none⟩ x).setCell ⟨w.heap.size, 1, none⟩ y).setCell ⟨w.heap.size, 2, none⟩ z).cell? ⟨w.heap.size, 3, none⟩ = some u) ∧ ((((w.alloc (.cells ⟨[a, b, c, d, e]⟩ t)).setCell ⟨w.heap.size, 0, none⟩ x).setCell ⟨w.heap.size, 1, none⟩ y).setCell ⟨w.heap.size, 2, none⟩ z).frozen? ⟨w.heap.size, 3, none⟩ = false ∧
      (∃ v, (((((w.alloc (.cells ⟨[a, b, c, d, e]⟩ t)).setCell ⟨w.heap.size, 0, none⟩ x).setCell ⟨w.heap.size, 1, none⟩ y).setCell ⟨w.heap.size, 2, none⟩ z).setCell ⟨w.heap.size, 3, none⟩ u).cell? ⟨w.heap.size, 4, none⟩ = some v) ∧ (((((w.alloc (.cells ⟨[a, b, c, d, e]⟩ t)).setCell ⟨w.heap.size, 0, none⟩ x).setCell ⟨w.heap.size, 1, none⟩ y).setCell ⟨w.heap.size, 2, none⟩ z).setCell ⟨w.heap.size, 3, none⟩ u).frozen? ⟨w.heap.size, 4, none⟩ = false) ∧
    Blk W w.heap.size t [x, y, z, u, v] ∧ Fr none1 w W := by
  rintro W rfl
  have b0 := Blk.new w t [a, b, c, d, e]
  obtain ⟨⟨u1, z1⟩, b1, f1⟩ := b0.wr1 0 (by simp) x
  obtain ⟨⟨u2, z2⟩, b2, f2⟩ := b1.wr1 1 (by simp) y
  obtain ⟨⟨u3, z3⟩, b3, f3⟩ := b2.wr1 2 (by simp) z
  obtain ⟨⟨u4, z4⟩, b4, f4⟩ := b3.wr1 3 (by simp) u
  obtain ⟨⟨u5, z5⟩, b5, f5⟩ := b4.wr1 4 (by simp) v
  have e : ∀ k, k = w.heap.size → w.heap.size ≤ k := fun k e => Nat.le_of_eq e.symm
  exact ⟨⟨u1, z1, u2, z2, u3, z3, u4, z4, u5, z5⟩, b5, ((Fr.alloc _ _).bel0.trans' ((f1.bel e).trans' ((f2.bel e).trans' ((f3.bel e).trans' ((f4.bel e).trans' (f5.bel e)))))).top⟩
/-- Two variables, newly made and written. -/
theorem vars2 (w : World) (t1 t2 : TypeId) (o1 o2 p1 p2 : Value) : ∀ W, W = (((w.alloc (.cells ⟨[o1]⟩ t1)).alloc (.cells ⟨[o2]⟩ t2)).setCell ⟨w.heap.size, 0, none⟩ p1).setCell ⟨(w.alloc (.cells ⟨[o1]⟩ t1)).heap.size, 0, none⟩ p2 →
    ((∃ u, ((w.alloc (.cells ⟨[o1]⟩ t1)).alloc (.cells ⟨[o2]⟩ t2)).cell? ⟨w.heap.size, 0, none⟩ = some u) ∧ ((w.alloc (.cells ⟨[o1]⟩ t1)).alloc (.cells ⟨[o2]⟩ t2)).frozen? ⟨w.heap.size, 0, none⟩ = false ∧
      (∃ u, (((w.alloc (.cells ⟨[o1]⟩ t1)).alloc (.cells ⟨[o2]⟩ t2)).setCell ⟨w.heap.size, 0, none⟩ p1).cell? ⟨(w.alloc (.cells ⟨[o1]⟩ t1)).heap.size, 0, none⟩ = some u) ∧ (((w.alloc (.cells ⟨[o1]⟩ t1)).alloc (.cells ⟨[o2]⟩ t2)).setCell ⟨w.heap.size, 0, none⟩ p1).frozen? ⟨(w.alloc (.cells ⟨[o1]⟩ t1)).heap.size, 0, none⟩ = false) ∧
    Blk W w.heap.size t1 [p1] ∧ Blk W (w.alloc (.cells ⟨[o1]⟩ t1)).heap.size t2 [p2] ∧ (w.alloc (.cells ⟨[o1]⟩ t1)).heap.size = w.heap.size + 1 ∧ Fr none1 w W := by
  rintro W rfl
  have es : (w.alloc (.cells ⟨[o1]⟩ t1)).heap.size = w.heap.size + 1 := by simp
  have a0 := (Blk.new w t1 [o1]).alloc (.cells ⟨[o2]⟩ t2)
  have b0 := Blk.new (w.alloc (.cells ⟨[o1]⟩ t1)) t2 [o2]
  have f0 : Fr none1 w (w.alloc (.cells ⟨[o1]⟩ t1)) := Fr.alloc _ _
  have f1 : Fr none1 (w.alloc (.cells ⟨[o1]⟩ t1)) ((w.alloc (.cells ⟨[o1]⟩ t1)).alloc (.cells ⟨[o2]⟩ t2)) := Fr.alloc _ _
  obtain ⟨⟨u1, z1⟩, a1, f2⟩ := a0.wr1 0 (by simp) p1
  have b1 := b0.fr f2 (by omega)
  obtain ⟨⟨u2, z2⟩, b2, f3⟩ := b1.wr1 0 (by simp) p2
  have a2 := a1.fr f3 (by omega)
  exact ⟨⟨u1, z1, u2, z2⟩, a2, b2, es, (f0.bel0.trans' (f1.bel0.trans' ((f2.bel fun k e => by have e : k = w.heap.size := e; omega).trans' (f3.bel fun k e => by have e : k = (w.alloc (.cells ⟨[o1]⟩ t1)).heap.size := e; omega)))).top⟩
end Go.Eng
namespace Go.Proofs
open Go Go.Eng
def SpQ (w : World) (a : Addr) (s : Sp) : Prop := ∀ j v, (scell s)[j]? = some v → w.cell? (a.add j) = some v
def own0 (n0 n1 n2 n3 n4 n5 : Nat) (k : Nat) : Nat :=
  if k < n0 then 9 else if k < n1 then 1 else if k < n1 + 1 then 8 else if k < n2 then 2 else if k < n3 then 3 else if k < n3 + 2 then 8 else if k < n4 then 4 else if k < n5 then 5 else if k < n5 + 2 then 8 else 0
section
variable {n0 n1 n2 n3 n4 n5 k : Nat} (h01 : n0 ≤ n1) (h12 : n1 + 1 ≤ n2) (h23 : n2 ≤ n3) (h34 : n3 + 2 ≤ n4) (h45 : n4 ≤ n5)
include h01 h12 h23 h34 h45
theorem own0_1 (h : n0 ≤ k) (h2 : k < n1) : own0 n0 n1 n2 n3 n4 n5 k = 1 := by unfold own0; rw [if_neg (by omega), if_pos h2]
theorem own0_8a (h : k = n1) : own0 n0 n1 n2 n3 n4 n5 k = 8 := by unfold own0; rw [if_neg (by omega), if_neg (by omega), if_pos (by omega)]
theorem own0_2 (h : n1 + 1 ≤ k) (h2 : k < n2) : own0 n0 n1 n2 n3 n4 n5 k = 2 := by unfold own0; rw [if_neg (by omega), if_neg (by omega), if_neg (by omega), if_pos h2]
theorem own0_3 (h : n2 ≤ k) (h2 : k < n3) : own0 n0 n1 n2 n3 n4 n5 k = 3 := by unfold own0; rw [if_neg (by omega), if_neg (by omega), if_neg (by omega), if_neg (by omega), if_pos h2]
theorem own0_8b (h : n3 ≤ k) (h2 : k < n3 + 2) : own0 n0 n1 n2 n3 n4 n5 k = 8 := by unfold own0; rw [if_neg (by omega), if_neg (by omega), if_neg (by omega), if_neg (by omega), if_neg (by omega), if_pos h2]
theorem own0_4 (h : n3 + 2 ≤ k) (h2 : k < n4) : own0 n0 n1 n2 n3 n4 n5 k = 4 := by unfold own0; rw [if_neg (by omega), if_neg (by omega), if_neg (by omega), if_neg (by omega), if_neg (by omega), if_neg (by omega), if_pos h2]
theorem own0_5 (h : n4 ≤ k) (h2 : k < n5) : own0 n0 n1 n2 n3 n4 n5 k = 5 := by unfold own0; rw [if_neg (by omega), if_neg (by omega), if_neg (by omega), if_neg (by omega), if_neg (by omega), if_neg (by omega), if_neg (by omega), if_pos h2]
theorem own0_8c (h : n5 ≤ k) (h2 : k < n5 + 2) : own0 n0 n1 n2 n3 n4 n5 k = 8 := by unfold own0; rw [if_neg (by omega), if_neg (by omega), if_neg (by omega), if_neg (by omega), if_neg (by omega), if_neg (by omega), if_neg (by omega), if_neg (by omega), if_pos h2]
end
def tp0 : TPs := ⟨[], 0, 0, 0, none, 0, false, 0, false, [], 0, [], []⟩
theorem tp0_inv : TInv tp0 :=
  ⟨(fun _ h => by cases h), Nat.le_refl _, Nat.le_refl _, by decide, .inl ⟨rfl, rfl⟩, rfl, rfl, (fun h => by cases h), rfl, Nat.le_refl _, by decide, (fun _ h => by cases h), (fun _ h => by cases h), by decide, by decide⟩
def ToldLaw (W : World) (v : Value) (w' : World) : Prop := v = .bool true ∧ Fr none1 W w'
section
variable {W w : World} {own : Nat → Nat} {a : TAd} {A : Option Addr} {sl : List Sp} {c : Nat}
theorem told_k1 (hl : RowAt W.heap.size 5 (SpQ W) A sl) (h : TX 0 W w own a tp0 none 0 none 0) : S4_k1 A sl.length c (va a.vr) (va a.vs) (va a.vh) (va a.vt) (va a.vf) w (ToldLaw W) := by
  refine ⟨fun s w' => ∃ (i : Nat) (own : Nat → Nat) (x : TPs) (tA : Option Addr) (tc : Nat) (dA : Option Addr) (dc : Nat), s = ((tA, x.T.length, tc), (dA, x.d, dc), (i : Int), ()) ∧ i ≤ sl.length ∧ i ≤ 200 ∧ TX 0 W w' own a x tA tc dA dc ∧ TInv x ∧ x.T.length ≤ i, fun s _ => sl.length - s.2.2.1.toNat, ⟨0, own, tp0, none, 0, none, 0, rfl, Nat.zero_le _, Nat.zero_le _, h, tp0_inv, Nat.le_refl _⟩, ?_⟩
  rintro J s w1 ⟨i, own, x, tA, tc, dA, dc, rfl, hi, hi2, h1, I, hn⟩
  dsimp only
  refine cD (fun hlt => ?_) (fun hlt => ⟨rfl, h1.bel.top⟩)
  have hi' : i < sl.length := by have : (i : Int) < (sl.length : Int) := hlt; omega
  have hx : sl[i]? = some sl[i] := List.getElem?_eq_getElem hi'
  obtain ⟨p, ha, hab, hq⟩ := hl i _ hx
  generalize sl[i] = s at hx hq
  have hq' : ∀ j v, (scell s)[j]? = some v → w1.cell? ((p.add (i * 5)).add j) = some v := fun j v hv => by
    rw [h1.bel.cell (by rw [add_block, add_block]; exact hab) (by rw [add_block, add_block]; simp only [from1]; omega)]
    exact hq j v hv
  have q0 := hq' 0 _ rfl
  rw [add_zero'] at q0
  obtain ⟨⟨u1, z1, u2, z2, u3, z3, u4, z4, u5, z5⟩, bp, f⟩ := new5 w1 69 (.int .u8 0) (.int .u8 0) (.int .i64 0) (.int .i64 0) (.int .i64 0) (.int .u8 s.k) (.int .u8 s.z.k) (.int .i64 s.z.c) (.int .i64 s.z.p) (.int .i64 s.i) _ rfl
  have h2 := h1.fr0 f
  refine ⟨p, ha, by omega, by omega, _, by rw [Int.toNat_natCast]; exact q0, _, by rw [Int.toNat_natCast]; exact hq' 1 _ rfl, _, by rw [Int.toNat_natCast]; exact hq' 2 _ rfl, _, by rw [Int.toNat_natCast]; exact hq' 3 _ rfl, _, by rw [Int.toNat_natCast]; exact hq' 4 _ rfl, u1, z1, u2, z2, u3, z3, u4, z4, u5, z5, cD (fun _ => ⟨rfl, h2.bel.top⟩) (fun h200 => ?_)⟩
  refine told_k4 (s := s) (fun w' own' x' tA' tc' dA' dc' h' I' hn' => ?_) h2 I hn (by omega) ⟨nxt_or (.inr (Nat.le_refl _)), bp⟩
  exact ⟨⟨i + 1, own', x', tA', tc', dA', dc', rfl, by omega, by omega, h', I', hn'⟩, by dsimp only; omega⟩
theorem topTold_ok (hl : RowAt W.heap.size 5 (SpQ W) A sl) : Ret Try.prog 4 [.slice A sl.length c] W (ToldLaw W) := by
  apply S4_calls
  refine (rbnew_ok W).use ?_
  rintro v w1 ⟨rb, rfl, r1, f1⟩
  have b0 := Blk.new w1 46 [.pointer none]
  have g0 : Fr none1 w1 (w1.alloc (.cells ⟨[.pointer none]⟩ 46)) := Fr.alloc _ _
  have e1 : (w1.alloc (.cells ⟨[.pointer none]⟩ 46)).heap.size = w1.heap.size + 1 := by simp
  obtain ⟨⟨ua, za⟩, b1, g1⟩ := b0.wr1 0 (by simp) (.pointer (some ⟨rb, 0, none⟩))
  have ga : Fr none1 w1 _ := (g0.bel0.trans' (g1.bel fun k e => Nat.le_of_eq (Eq.symm e))).top
  refine ⟨_, _, rfl, ua, za, ?_⟩
  have ea : ((w1.alloc (.cells ⟨[.pointer none]⟩ 46)).setCell ⟨w1.heap.size, 0, none⟩ (.pointer (some ⟨rb, 0, none⟩))).heap.size = w1.heap.size + 1 := by simp
  generalize (w1.alloc (.cells ⟨[.pointer none]⟩ 46)).setCell ⟨w1.heap.size, 0, none⟩ (.pointer (some ⟨rb, 0, none⟩)) = wa at ea b1 ga ⊢
  refine (snew_ok 0 wa).use ?_
  rintro v w2 ⟨rfl, s2, f2⟩
  refine ⟨_, rfl, ?_⟩
  refine (rvnew_ok 0 w2).use ?_
  rintro v w3 ⟨rfl, r3, f3⟩
  obtain ⟨⟨ub, zb, uc, zc⟩, bs, bh, eb, fb⟩ := vars2 w3 49 52 (.pointer none) (.pointer none) (.pointer (some ⟨wa.heap.size, 0, none⟩)) (.pointer (some ⟨w2.heap.size, 0, none⟩)) _ rfl
  refine ⟨_, rfl, ub, zb, uc, zc, ?_⟩
  clear ub zb uc zc
  generalize hwb : (((w3.alloc (.cells ⟨[.pointer none]⟩ 49)).alloc (.cells ⟨[.pointer none]⟩ 52)).setCell ⟨w3.heap.size, 0, none⟩ (.pointer (some ⟨wa.heap.size, 0, none⟩))).setCell ⟨(w3.alloc (.cells ⟨[.pointer none]⟩ 49)).heap.size, 0, none⟩ (.pointer (some ⟨w2.heap.size, 0, none⟩)) = wb at bs bh fb ⊢
  have esb : wb.heap.size = w3.heap.size + 2 := by rw [← hwb]; simp
  clear hwb
  rw [eb] at bh ⊢
  refine (nnew_ok wb).use ?_
  rintro v w4 ⟨rfl, t4, f4⟩
  refine ⟨_, rfl, ?_⟩
  refine (nnew_ok w4).use ?_
  rintro v w5 ⟨rfl, t5, f5⟩
  obtain ⟨⟨ud, zd, ue, ze⟩, bt, bf, ec, fc⟩ := vars2 w5 54 54 (.pointer none) (.pointer none) (.pointer (some ⟨wb.heap.size, 0, none⟩)) (.pointer (some ⟨w4.heap.size, 0, none⟩)) _ rfl
  refine ⟨_, rfl, ud, zd, ue, ze, ?_⟩
  clear ud zd ue ze
  generalize hwc : (((w5.alloc (.cells ⟨[.pointer none]⟩ 54)).alloc (.cells ⟨[.pointer none]⟩ 54)).setCell ⟨w5.heap.size, 0, none⟩ (.pointer (some ⟨wb.heap.size, 0, none⟩))).setCell ⟨(w5.alloc (.cells ⟨[.pointer none]⟩ 54)).heap.size, 0, none⟩ (.pointer (some ⟨w4.heap.size, 0, none⟩)) = wc at bt bf fc ⊢
  have esc : wc.heap.size = w5.heap.size + 2 := by rw [← hwc]; simp
  clear hwc
  rw [ec] at bf ⊢
  have z1 := f1.size
  have z2 := f2.size
  have z3 := f3.size
  have z4 := f4.size
  have z5 := f5.size
  have t4' := t4.mono (ok' := fun k => w3.heap.size + 2 ≤ k ∧ k < w4.heap.size) fun k hk h => ⟨by have h : wb.heap.size ≤ k := h; omega, hk⟩
  have t5' := t5.mono (ok' := fun k => w4.heap.size ≤ k ∧ k < w5.heap.size) fun k hk h => ⟨h, hk⟩
  have r1' := r1.mono (ok' := fun k => W.heap.size ≤ k ∧ k < w1.heap.size) fun k hk h => ⟨h, hk⟩
  have s2' := s2.mono (ok' := fun k => w1.heap.size + 1 ≤ k ∧ k < w2.heap.size) fun k hk h => ⟨by have h : wa.heap.size ≤ k := h; omega, hk⟩
  have N : ∀ {w : World} {ok : Nat → Prop}, ∀ k, k < w.heap.size → ok k → ¬ none1 k := fun _ _ _ h => h
  have q5c := f5.trans' fc
  have q4c := f4.trans' q5c
  have qbc := fb.trans' q4c
  have q3c := f3.trans' qbc
  have q2c := f2.trans' q3c
  have qac := ga.trans' q2c
  have R := r1'.fr qac N
  have S := s2'.fr q3c N
  have V : Rcv wc w2.heap.size 0 := Blk.fr r3 qbc fun h => h
  have T4 := t4'.fr q5c N
  have T5 := t5'.fr fc N
  have vr := b1.fr q2c fun h => h
  have vs := bs.fr q4c fun h => h
  have vh := bh.fr q4c fun h => h
  have rcvlt := Blk.lt r3
  refine ⟨_, vr.cell 0, cF rfl ⟨_, vs.cell 0, cF rfl ⟨_, vh.cell 0, cF rfl ⟨_, bt.cell 0, cF rfl ⟨_, bf.cell 0, cF rfl (cF rfl ?_)⟩⟩⟩⟩⟩
  have X : TX 0 W wc (own0 W.heap.size w1.heap.size w2.heap.size w3.heap.size w4.heap.size w5.heap.size) ⟨rb, wa.heap.size, w2.heap.size, wb.heap.size, w4.heap.size, w1.heap.size, w3.heap.size, w3.heap.size + 1, w5.heap.size, w5.heap.size + 1⟩ tp0 none 0 none 0 := by
    have h01 : W.heap.size ≤ w1.heap.size := z1
    have h12 : w1.heap.size + 1 ≤ w2.heap.size := by omega
    have h23 : w2.heap.size ≤ w3.heap.size := z3
    have h34 : w3.heap.size + 2 ≤ w4.heap.size := by omega
    have h45 : w4.heap.size ≤ w5.heap.size := z5
    exact ⟨fun _ => R.mono fun k _ hk => own0_1 h01 h12 h23 h34 h45 hk.1 hk.2, fun _ => S.mono fun k _ hk => own0_2 h01 h12 h23 h34 h45 hk.1 hk.2, fun _ => ⟨own0_3 h01 h12 h23 h34 h45 (Nat.le_refl _) rcvlt, V⟩, fun _ => T4.mono fun k _ hk => own0_4 h01 h12 h23 h34 h45 hk.1 hk.2, fun _ => T5.mono fun k _ hk => own0_5 h01 h12 h23 h34 h45 hk.1 hk.2, fun _ => Own.nil _ _ _ _, fun _ => Own.nil _ _ _ _,
      ⟨own0_8a h01 h12 h23 h34 h45 rfl, vr⟩, ⟨own0_8b (k := w3.heap.size) h01 h12 h23 h34 h45 (Nat.le_refl _) (by omega), vs⟩, ⟨own0_8b (k := w3.heap.size + 1) h01 h12 h23 h34 h45 (by omega) (by omega), vh⟩, ⟨own0_8c (k := w5.heap.size) h01 h12 h23 h34 h45 (Nat.le_refl _) (by omega), bt⟩, ⟨own0_8c (k := w5.heap.size + 1) h01 h12 h23 h34 h45 (by omega) (by omega), bf⟩, fun k hk => if_pos hk, (f1.trans' qac).bel0⟩
  exact told_k1 hl X
end
end Go.Proofs
