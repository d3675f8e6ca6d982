/- Claims: BankerLess. -/
import Derived.Test.YtlmbbcmaellkoaaBkK08
set_option linter.unusedVariables false
namespace Go.Proofs
open Go Go.Eng
theorem set_perm {l : List Cm} {i : Nat} (h : i < l.length) (c : Cm) : (l.set i c).Perm (c :: l.eraseIdx i) := by
  have h1 := erase_perm (l := l.set i c) (i := i) (by simpa using h)
  rw [g_set c h, if_pos rfl, List.eraseIdx_set_eq] at h1
  exact h1
theorem right_less {l : List Cm} {i : Nat} (h : i < l.length) {c : Cm} (hr : rightB l = true) (h1 : ∀ z ∈ c.1, z ∈ (g l i).1) (h2 : ∀ z ∈ c.2, z ∈ (g l i).2) : rightB (l.set i c) = true := by
  rw [right_perm (set_perm h c)]
  rw [right_perm (erase_perm h), rightB_iff] at hr
  rw [rightB_iff]
  obtain ⟨hl, ho, hp⟩ := hr
  refine ⟨by simpa using hl, fun a ha => ?_, ?_⟩
  · rcases List.mem_cons.1 ha with rfl | ha
    · have := ho _ (List.mem_cons_self)
      exact ⟨okZ_iff.2 fun z hz => okZ_iff.1 this.1 z (h1 z hz), okZ_iff.2 fun z hz => okZ_iff.1 this.2 z (h2 z hz)⟩
    · exact ho a (by simp [ha])
  · rw [List.pairwise_cons] at hp ⊢
    exact ⟨fun a ha => disj_mono (fun z hz => hz) h1 (hp.1 a ha), hp.2⟩
theorem safe_less {l : List Cm} {i : Nat} (h : i < l.length) {c : Cm} (hs : safeB l = true) (h1 : ∀ z ∈ c.1, z ∈ (g l i).1) (h2 : ∀ z ∈ c.2, z ∈ (g l i).2) : safeB (l.set i c) = true := by
  rw [safeB_iff] at hs ⊢
  refine ⟨right_less h hs.1 h1 h2, ?_⟩
  rw [safe_perm (set_perm h c)]
  exact hs.2.less (erase_perm h) h1 h2
theorem safe_gone {l : List Cm} {i : Nat} (h : i < l.length) (hs : safeB l = true) : safeB (l.eraseIdx i) = true := by
  rw [safeB_iff] at hs ⊢
  exact ⟨right_sub hs.1 (List.eraseIdx_sublist _ _), hs.2.gone (erase_perm h)⟩
theorem cms_set (xs : List Cl) (i : Nat) (x : Cl) : cms (xs.set i x) = (cms xs).set i (x.h, x.n) := by unfold cms; rw [List.map_set]; rfl
theorem List.set_getElem?_self' {α : Type} {l : List α} {i : Nat} {x : α} (h : l[i]? = some x) : l.set i x = l := by
  obtain ⟨h1, h2⟩ := List.getElem?_eq_some_iff.1 h
  rw [← h2, List.set_getElem_self]
/-- A row of claims of the call's own, whose lists lie below B. -/
def Yr (B : Nat) (w : World) (gy cy : Nat) (ys : List Cl) : Prop := Own w 28 2 (from1 B) (some ⟨gy, 0, none⟩) ys.length cy (rws clc ys) ∧ (∀ y ∈ ys, ClR w (fun k => k < B) y) ∧ ys.length ≤ 100
theorem Yr.ge {B : Nat} {w : World} {gy cy : Nat} {ys : List Cl} (h : Yr B w gy cy ys) : B ≤ gy := (h.1.has _ rfl).1
theorem Yr.fr0 {B : Nat} {w w' : World} {gy cy : Nat} {ys : List Cl} (h : Yr B w gy cy ys) (f : Fr none1 w w') : Yr B w' gy cy ys :=
  ⟨h.1.fr f fun _ _ _ h => h, fun y hy => (h.2.1 y hy).fr f fun _ _ _ h => h, h.2.2⟩
theorem Yr.cls {B : Nat} {w : World} {gy cy : Nat} {ys : List Cl} (h : Yr B w gy cy ys) : Cls w (fun _ => True) (some ⟨gy, 0, none⟩) ys :=
  ⟨h.1.rd.mono fun _ _ _ => trivial, fun y hy => ⟨(h.2.1 y hy).1.mono fun _ _ _ => trivial, (h.2.1 y hy).2.1.mono fun _ _ _ => trivial, (h.2.1 y hy).2.2⟩, h.2.2⟩
theorem Yr.put {B : Nat} {w : World} {gy cy : Nat} {ys : List Cl} (h : Yr B w gy cy ys) {i j : Nat} {y y' : Cl} {v : Value} (hy : ys[i]? = some y) (hj : j < 2) (hc : clc y' = (clc y).set j v) (hr : ClR w (fun k => k < B) y') :
    (∃ u, w.cell? ⟨gy, i * 2 + j, none⟩ = some u) ∧ w.frozen? ⟨gy, i * 2 + j, none⟩ = false ∧ Yr B (w.setCell ⟨gy, i * 2 + j, none⟩ v) gy cy (ys.set i y') ∧ Fr (fun k => k = gy) w (w.setCell ⟨gy, i * 2 + j, none⟩ v) := by
  have hi := (List.getElem?_eq_some_iff.1 hy).1
  have hge := h.ge
  have hst := h.1.store (j := i * 2 + j) (by rw [rws_length clc_len]; omega)
  have os := h.1.set (i * 2 + j) v
  rw [← rws_upd clc_len (a := y) (a' := y') (j := j) hj hc _ _ hy] at os
  have fs : Fr (fun k => k = gy) w (w.setCell ⟨gy, i * 2 + j, none⟩ v) := Fr.setCell (F := fun k => k = gy) w rfl _
  refine ⟨hst.1, hst.2, ⟨by rw [List.length_set]; exact os, fun z hz => ?_, by rw [List.length_set]; exact h.2.2⟩, fs⟩
  have : ClR w (fun k => k < B) z := by
    rcases List.mem_or_eq_of_mem_set hz with hz | rfl
    · exact h.2.1 z hz
    · exact hr
  exact this.fr fs fun k _ hk e => by have e : k = gy := e; omega
theorem cls_append {w : World} {B : Nat} {A : Option Addr} {xs : List Cl} (h : Cls w (fun k => k < B) A xs) (hB : B ≤ w.heap.size) (h0 : 0 < xs.length) (c : Nat) :
    ∃ gy cy w', (Builtin.append_ #[22, 22] 22 ⟨[(.slice (some ⟨w.heap.size, 0, none⟩) 0 0), (.slice A xs.length c)]⟩).run Try.prog (w.alloc (.cells ⟨[]⟩ 28)) = .ok (.slice (some ⟨gy, 0, none⟩) xs.length cy) w' ∧ Yr B w' gy cy xs ∧ Fr none1 w w' := by
  have hlx := h.2.2
  have lit := Own.lit w 28 2 0 [] (by simp) (by simp)
  have f1 : Fr none1 w (w.alloc (.cells ⟨[]⟩ 28)) := Fr.alloc _ _
  obtain ⟨A2, c2, w2, r2, o2, f2, _⟩ := run_append (ty := 22) (m := xs.length) (c2 := c) Ecl lit (by rw [rws_length clc_len]) ((h.fr0 f1).1) (rws_cells clc_one _) (by omega) (by simp only [maxLen]; omega)
  rw [Nat.zero_add] at r2 o2
  rw [List.nil_append] at o2
  have f02 : Fr none1 w w2 := f1.trans f2 fun k hk ⟨a, ha, e⟩ => by cases ha; simp only at e; omega
  have o2' := o2.mono (ok' := from1 B) fun k _ hk => by
    rcases hk with hk | hk
    · show B ≤ k; omega
    · have := f1.size; show B ≤ k; omega
  obtain ⟨gy, rfl, _, _⟩ := o2'.form h0
  exact ⟨gy, c2, w2, r2, ⟨o2', (h.fr0 f02).2.1, hlx⟩, f02⟩
section
variable {W : World} {A : Option Addr} {al : List Cl} {c : Nat}
theorem bankerLess_ok (h : RowAt W.heap.size 2 (ClQ W W.heap.size) A al) (hc : al.length ≤ c) (hm : c ≤ 9223372036854775807) : Ret Try.prog 3 [.slice A al.length c] W (Done W) := by
  apply S3_calls
  refine (shown_ok W).use ?_
  rintro v w1 ⟨rfl, f1⟩
  refine ⟨_, rfl, ?_⟩
  refine (few_ok h f1.bel0 (Nat.le_refl _) hc hm).use ?_
  rintro v w1 ⟨rfl, rfl⟩
  have hclW := fw_cls h
  have hfl := (fw_len al)
  generalize fw al = xs at hclW hfl
  refine ⟨_, _, _, rfl, ?_⟩
  refine (Safe_ok (hclW.fr0 f1) c).use ?_
  rintro v w2 ⟨rfl, f2⟩
  have f02 := f1.trans' f2
  have hcl' := cms_len xs
  refine ⟨_, rfl, ?_⟩
  cases hs : safeB (cms xs) with
  | false => exact cT rfl ⟨rfl, f02⟩
  | true =>
  refine cF rfl ?_
  have clsB : ∀ {u}, Bel W.heap.size W u → Cls u (fun k => k < W.heap.size) A xs := fun g => hclW.fr g fun k hk ho hf => by
    have ho : k < W.heap.size := ho
    have hf : W.heap.size ≤ k := hf
    omega
  refine ⟨fun s w' => ∃ i : Nat, s.1 = (i : Int) ∧ i ≤ xs.length ∧ Bel W.heap.size W w', fun s _ => xs.length - s.1.toNat, ⟨0, rfl, Nat.zero_le _, f02.bel0⟩, ?_⟩
  rintro J ⟨i', ⟨⟩⟩ w3 ⟨i, hi, hil, g3⟩
  dsimp only at hi ⊢
  subst hi
  refine cD (fun hlt => ?_) (fun hlt => ⟨rfl, g3.top⟩)
  have hlt' : i < xs.length := by have : (i : Int) < (xs.length : Int) := hlt; omega
  have hx : xs[i]? = some xs[i] := List.getElem?_eq_getElem hlt'
  generalize xs[i] = x at hx
  have hgx := g_at hx
  obtain ⟨gy, cy, w4, r4, y4, f4⟩ := cls_append (clsB g3) g3.size (by omega) c
  have g4 := g3.trans' f4.bel0
  have hge := y4.ge
  have gF : ∀ {u u' : World}, Fr (fun k => k = gy) u u' → Bel W.heap.size u u' := fun f => f.bel fun k e => by subst e; exact hge
  have k4 : ∀ {u}, Bel W.heap.size W u → S3_k4 true A xs.length c (i : Int) ((xs.length : Nat) : Int) (i : Int) u (Done W) (fun s' w'' => (∃ i : Nat, s'.1 = (i : Int) ∧ i ≤ xs.length ∧ Bel W.heap.size W w'') ∧ xs.length - s'.1.toNat < xs.length - (i : Int).toNat) := by
    intro u gu
    refine (without_ok (clsB gu) (c := c) (by omega) hm hlt').use ?_
    rintro v u1 ⟨A5, c5, rfl, cl5, f5⟩
    refine ⟨_, _, _, rfl, ?_⟩
    refine (Safe_ok cl5 c5).use ?_
    rintro v u2 ⟨rfl, f6⟩
    rw [cms_erase, safe_gone (by omega) hs]
    refine ⟨_, rfl, cF rfl ?_⟩
    rw [nextI (by omega)]
    exact ⟨⟨i + 1, rfl, by omega, gu.trans' (f5.bel0.trans' f6.bel0)⟩, by dsimp only; omega⟩
  have e2 : Int.toNat (i : Int) * 2 = i * 2 + 0 := by rw [Int.toNat_natCast]; rfl
  have a0 : (⟨gy, 0, none⟩ : Addr).add (i * 2 + 0) = ⟨gy, i * 2 + 0, none⟩ := add_g _ _
  have a1 : (⟨gy, i * 2 + 0, none⟩ : Addr).add 1 = ⟨gy, i * 2 + 1, none⟩ := add_go _ _ _
  -- with y at i laid back, and less needed
  have k3 : ∀ {u ys x1}, Bel W.heap.size W u → Yr W.heap.size u gy cy ys → ys.length = xs.length → ys[i]? = some x1 → ys.set i x = xs → S3_k3 true A xs.length c (i : Int) (some ⟨gy, 0, none⟩) xs.length cy ((xs.length : Nat) : Int) (i : Int) u (Done W) (fun s' w'' => (∃ i : Nat, s'.1 = (i : Int) ∧ i ≤ xs.length ∧ Bel W.heap.size W w'') ∧ xs.length - s'.1.toNat < xs.length - (i : Int).toNat) := by
    intro u ys x1 gu hy hyl hx1 hset
    obtain ⟨tx, htx, _, c0, c1, hR⟩ := cl_at (clsB gu) hx
    have hx1R := hy.2.1 x1 (List.mem_of_getElem? hx1)
    obtain ⟨s1, s2, s3, s4⟩ := hy.put (j := 0) (y' := ⟨x.hA, x.hc, x.h, x1.nA, x1.nc, x1.n⟩) (v := .slice x.hA x.h.length x.hc) hx1 (by decide) rfl ⟨hR.1, hx1R.2.1, hR.2.2.1, hx1R.2.2.2.1, hR.2.2.2.2.1, hx1R.2.2.2.2.2⟩
    have gu1 := gu.trans' (gF s4)
    have hx2 : (ys.set i ⟨x.hA, x.hc, x.h, x1.nA, x1.nc, x1.n⟩)[i]? = some ⟨x.hA, x.hc, x.h, x1.nA, x1.nc, x1.n⟩ := by rw [List.getElem?_set_self (by omega)]
    have hR1 := (clsB gu1).2.1 x (List.mem_of_getElem? hx)
    obtain ⟨q1, q2, q3, q4⟩ := s3.put (j := 1) (y' := x) (v := .slice x.nA x.n.length x.nc) hx2 (by decide) rfl hR1
    have gu2 := gu1.trans' (gF q4)
    rw [List.set_set, hset] at q3
    refine ⟨tx, htx, by omega, by omega, _, _, _, c0, _, _, _, c1, ⟨gy, 0, none⟩, rfl, by omega, by omega, by rw [e2, a0]; exact s1, by rw [e2, a0]; exact s2, by rw [e2, a0, a1]; exact q1, by rw [e2, a0, a1]; exact q2, ?_⟩
    simp only [e2, a0, a1]
    generalize (u.setCell ⟨gy, i * 2 + 0, none⟩ (.slice x.hA x.h.length x.hc)).setCell ⟨gy, i * 2 + 1, none⟩ (.slice x.nA x.n.length x.nc) = u2 at q3 q4 gu2 ⊢
    obtain ⟨t2, ht2, _, d0, d1, hR2⟩ := cl_at (clsB gu2) hx
    rw [e2] at d0 d1
    have fin := k4 gu2
    refine ⟨t2, ht2, by omega, by omega, _, _, _, d1, cD (fun hl => ?_) (fun hl => fin)⟩
    have hl' : 0 < x.n.length := by omega
    have hR3 : ClR u2 (fun k => k < W.heap.size) ⟨x.hA, x.hc, x.h, slAddr x.nA x.nc 1 1, x.nc - 1, x.n.drop 1⟩ := by
      obtain ⟨a1, a2, a3, a4, a5, a6⟩ := hR2
      refine ⟨a1, ?_, a3, by rw [List.length_drop]; omega, a5, by show (x.n.drop 1).length ≤ x.nc - 1; rw [List.length_drop]; omega⟩
      have := a2.drop (m := x.nc) (l := 1) (sz := 1) (by rw [Go.Eng.ints_length]; omega)
      have e3 : (ints x.n).drop (1 * 1) = ints (x.n.drop 1) := by unfold ints; rw [List.map_drop]
      rwa [e3] at this
    obtain ⟨n1, n2, n3, n4⟩ := q3.put (j := 1) (y' := ⟨x.hA, x.hc, x.h, slAddr x.nA x.nc 1 1, x.nc - 1, x.n.drop 1⟩) (v := .slice (slAddr x.nA x.nc 1 1) (x.n.length - 1) (x.nc - 1)) hx (by decide) (by unfold clc; simp only [List.length_drop]; rfl) hR3
    refine ⟨t2, ht2, by omega, by omega, _, _, _, d1, by omega, by omega, ⟨gy, 0, none⟩, rfl, by omega, by omega, by rw [a0, a1]; exact n1, by rw [a0, a1]; exact n2, ?_⟩
    rw [a0, a1]
    have hsl : (xs.set i ⟨x.hA, x.hc, x.h, slAddr x.nA x.nc 1 1, x.nc - 1, x.n.drop 1⟩).length = xs.length := List.length_set
    have hso := Safe_ok n3.cls cy
    rw [hsl] at hso
    refine hso.use ?_
    rintro v u4 ⟨rfl, f6⟩
    rw [cms_set, safe_less (by omega) hs (by rw [hgx]; exact fun z hz => hz) (by rw [hgx]; exact fun z hz => List.mem_of_mem_drop hz)]
    exact ⟨_, rfl, cF rfl (k4 (gu2.trans' ((gF n4).trans' f6.bel0)))⟩
  obtain ⟨t5, ht5, _, c0, c1, hR⟩ := cl_at (clsB g4) hx
  refine ⟨_, _, cy, w4, r4, t5, ht5, by omega, by omega, _, _, _, c0, cD (fun hl => ?_) (fun hl => k3 g4 y4 rfl hx (List.set_getElem?_self' hx))⟩
  have hl' : 0 < x.h.length := by omega
  have hlb := hR.2.2.1
  have hcb := hR.2.2.2.2.1
  have ew : IntKind.i64.wrap (((x.h.length : Nat) : Int) - 1) = ((x.h.length - 1 : Nat) : Int) := by rw [IntWalk.i64_in _ (by omega)]; omega
  rw [ew]
  have hR3 : ClR w4 (fun k => k < W.heap.size) ⟨x.hA, x.hc, x.h.take (x.h.length - 1), x.nA, x.nc, x.n⟩ := by
    obtain ⟨a1, a2, a3, a4, a5, a6⟩ := hR
    refine ⟨?_, a2, by rw [List.length_take]; omega, a4, by show (x.h.take (x.h.length - 1)).length ≤ x.hc; rw [List.length_take]; omega, a6⟩
    have := a1.take (x.h.length - 1)
    have e3 : (ints x.h).take (x.h.length - 1) = ints (x.h.take (x.h.length - 1)) := by unfold ints; rw [List.map_take]
    rwa [e3] at this
  obtain ⟨n1, n2, n3, n4⟩ := y4.put (j := 0) (y' := ⟨x.hA, x.hc, x.h.take (x.h.length - 1), x.nA, x.nc, x.n⟩) (v := .slice x.hA (x.h.length - 1) x.hc) hx (by decide) (by unfold clc; rw [List.length_take, Nat.min_eq_left (by omega)]; rfl) hR3
  refine ⟨t5, ht5, by omega, by omega, _, _, _, c0, by omega, by omega, ⟨gy, 0, none⟩, rfl, by omega, by omega, by rw [e2, a0]; exact n1, by rw [e2, a0]; exact n2, ?_⟩
  rw [e2, a0, slAddr_zero, Int.toNat_natCast, Nat.sub_zero, Nat.sub_zero]
  have hsl : (xs.set i ⟨x.hA, x.hc, x.h.take (x.h.length - 1), x.nA, x.nc, x.n⟩).length = xs.length := List.length_set
  have hso := Safe_ok n3.cls cy
  rw [hsl] at hso
  refine hso.use ?_
  rintro v u4 ⟨rfl, f6⟩
  rw [cms_set, safe_less (by omega) hs (by rw [hgx]; exact fun z hz => List.mem_of_mem_take hz) (by rw [hgx]; exact fun z hz => hz)]
  refine ⟨_, rfl, cF rfl (k3 (g4.trans' ((gF n4).trans' f6.bel0)) (n3.fr0 f6) hsl (x1 := ⟨x.hA, x.hc, x.h.take (x.h.length - 1), x.nA, x.nc, x.n⟩) (by rw [List.getElem?_set_self hlt']) (by rw [List.set_set]; exact List.set_getElem?_self' hx))⟩
end
end Go.Proofs
