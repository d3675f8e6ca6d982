/- Claims: BankerGoes. -/
import Derived.Test.YtlmbbcmaellkoaaBkL08
set_option linter.unusedVariables false
namespace Go.Proofs
open Go Go.Eng
theorem ord_first {l : List Cm} {a : Nat} {t : List Nat} (h : ord l = some (a :: t)) : a < l.length ∧ free (g l a) (l.eraseIdx a) := by
  unfold ord at h
  generalize hn : l.length = n at h
  cases n with
  | zero => simp [gr] at h
  | succ n =>
    unfold gr at h
    cases hp : pick l [] with
    | none => rw [hp] at h; cases h
    | some i =>
      rw [hp] at h
      obtain ⟨t', ht, _⟩ := gr_prefix h
      simp at ht
      obtain ⟨rfl, rfl⟩ := ht
      obtain ⟨hi, hc⟩ := pick_some hp
      obtain ⟨_, hf⟩ := canB_iff.1 hc
      have p := rest_cons l hi (out := []) (by simp)
      rw [rest_nil] at p
      exact ⟨by rw [← hn]; exact hi, free_perm hf ((p.symm.trans (erase_perm hi)).cons_inv)⟩
section
variable {l : List Cm} {a : Nat} {h : List Int}
theorem goes_safe (ha : a < l.length) (hs : safeB l = true) (hf : free (g l a) (l.eraseIdx a)) (hh : ∀ z ∈ h, z ∈ (g l a).1 ∨ z ∈ (g l a).2) : safeB (l.set a (h, (g l a).2)) = true := by
  rw [safeB_iff] at hs ⊢
  obtain ⟨hr, hsf⟩ := hs
  refine ⟨?_, ?_⟩
  · rw [right_perm (set_perm ha _)]
    rw [right_perm (erase_perm ha), rightB_iff] at hr
    rw [rightB_iff]
    obtain ⟨hl, ho, hp⟩ := hr
    have hg := ho _ (List.mem_cons_self)
    refine ⟨by simpa using hl, fun c hc => ?_, ?_⟩
    · rcases List.mem_cons.1 hc with rfl | hc
      · refine ⟨okZ_iff.2 fun z hz => ?_, hg.2⟩
        rcases hh z hz with h1 | h1
        · exact okZ_iff.1 hg.1 z h1
        · exact okZ_iff.1 hg.2 z h1
      · exact ho c (by simp [hc])
    · rw [List.pairwise_cons] at hp ⊢
      refine ⟨fun c hc => ?_, hp.2⟩
      have h1 := hp.1 c hc
      have h2 := hf c hc
      rw [disj_iff] at h1 h2 ⊢
      intro z hz hz2
      rcases hh z hz2 with h3 | h3
      · exact h1 z hz h3
      · exact h2 z h3 hz
  · rw [safe_perm (set_perm ha _)]
    exact .cons (List.Perm.refl _) hf (hsf.gone (erase_perm ha))
theorem goes_may (ha : a < l.length) (hs : safeB l = true) (hf : free (g l a) (l.eraseIdx a)) (hh : ∀ z ∈ h, z ∈ (g l a).1 ∨ z ∈ (g l a).2) {z : Int} (hz : z ∈ (g l a).2) (hno : z ∉ h) : mayB (l.set a (h, (g l a).2)) (a : Int) z = true := by
  have h1 := goes_safe ha hs hf hh
  have h2 := goes_safe (h := z :: h) ha hs hf (fun y hy => by
    rcases List.mem_cons.1 hy with rfl | hy
    · exact .inr hz
    · exact hh y hy)
  have hr := (rightB_iff.1 (safeB_iff.1 hs).1).2.1 _ (g_mem ha)
  have hzr := okZ_iff.1 hr.2 z hz
  have hany : (l.set a (h, (g l a).2)).any (fun c => c.1.contains z) = false := by
    rw [List.any_eq_false]
    intro c hc
    rw [(set_perm ha _).mem_iff] at hc
    rcases List.mem_cons.1 hc with rfl | hc
    · simpa using hno
    · have := disj_iff.1 (hf c hc) z hz
      simpa using this
  have hgive : give (l.set a (h, (g l a).2)) a z = l.set a (z :: h, (g l a).2) := by
    unfold give
    rw [g_set _ ha, if_pos rfl, List.set_set]
  unfold mayB
  rw [(safeB_iff.1 h1).1, hany, Int.toNat_natCast, hgive, (ord_safe _).2 (safeB_iff.1 h2).2]
  have : decide (0 ≤ (a : Int) ∧ (a : Int) < ((l.set a (h, (g l a).2)).length : Int) ∧ 0 ≤ z ∧ z < 26) = true := by
    rw [decide_eq_true_iff, List.length_set]; omega
  rw [this]; rfl
end
/-- A row of claims of the call's own, whose lists may be the call's own. -/
def Yt (B : Nat) (w : World) (gy cy : Nat) (ys : List Cl) : Prop := Own w 28 2 (from1 B) (some ⟨gy, 0, none⟩) ys.length cy (rws clc ys) ∧ (∀ y ∈ ys, ClR w (okT B w) y) ∧ ys.length ≤ 100
theorem Yr.yt {B : Nat} {w : World} {gy cy : Nat} {ys : List Cl} (h : Yr B w gy cy ys) : Yt B w gy cy ys :=
  ⟨h.1, fun y hy => ⟨(h.2.1 y hy).1.mono fun _ _ h => .inl h, (h.2.1 y hy).2.1.mono fun _ _ h => .inl h, (h.2.1 y hy).2.2⟩, h.2.2⟩
theorem Yt.ge {B : Nat} {w : World} {gy cy : Nat} {ys : List Cl} (h : Yt B w gy cy ys) : B ≤ gy := (h.1.has _ rfl).1
theorem Yt.fr0 {B : Nat} {w w' : World} {gy cy : Nat} {ys : List Cl} (h : Yt B w gy cy ys) (f : Fr none1 w w') : Yt B w' gy cy ys :=
  ⟨h.1.fr f fun _ _ _ h => h, fun y hy => (h.2.1 y hy).keepT f fun _ _ h => h.elim, h.2.2⟩
theorem Yt.cls {B : Nat} {w : World} {gy cy : Nat} {ys : List Cl} (h : Yt B w gy cy ys) : Cls w (fun _ => True) (some ⟨gy, 0, none⟩) ys :=
  ⟨h.1.rd.mono fun _ _ _ => trivial, fun y hy => ⟨(h.2.1 y hy).1.mono fun _ _ _ => trivial, (h.2.1 y hy).2.1.mono fun _ _ _ => trivial, (h.2.1 y hy).2.2⟩, h.2.2⟩
theorem Yt.put {B : Nat} {w : World} {gy cy : Nat} {ys : List Cl} (h : Yt B w gy cy ys) {i j : Nat} {y y' : Cl} {v : Value} (hy : ys[i]? = some y) (hj : j < 2) (hc : clc y' = (clc y).set j v) (hr : ClR w (okT B w) y') :
    (∃ u, w.cell? ⟨gy, i * 2 + j, none⟩ = some u) ∧ w.frozen? ⟨gy, i * 2 + j, none⟩ = false ∧ Yt B (w.setCell ⟨gy, i * 2 + j, none⟩ v) gy cy (ys.set i y') ∧ Fr (fun k => k = gy) w (w.setCell ⟨gy, i * 2 + j, none⟩ v) := by
  have hi := (List.getElem?_eq_some_iff.1 hy).1
  have hge := h.ge
  have hst := h.1.store (j := i * 2 + j) (by rw [rws_length clc_len]; omega)
  have os := h.1.set (i * 2 + j) v
  rw [← rws_upd clc_len (a := y) (a' := y') (j := j) hj hc _ _ hy] at os
  have fs : Fr (fun k => k = gy) w (w.setCell ⟨gy, i * 2 + j, none⟩ v) := Fr.setCell (F := fun k => k = gy) w rfl _
  have hnt := h.1.notTy (ts := [3]) (by decide) _ rfl
  refine ⟨hst.1, hst.2, ⟨by rw [List.length_set]; exact os, fun z hz => ?_, by rw [List.length_set]; exact h.2.2⟩, fs⟩
  have : ClR w (okT B w) z := by
    rcases List.mem_or_eq_of_mem_set hz with hz | rfl
    · exact h.2.1 z hz
    · exact hr
  exact this.keepT fs fun k _ e => by have e : k = gy := e; subst e; exact ⟨hge, hnt⟩
section
variable {W : World} {A : Option Addr} {al : List Cl} {c : Nat}
theorem bankerGoes_ok (h : RowAt W.heap.size 2 (ClQ W W.heap.size) A al) (hc : al.length ≤ c) (hm : c ≤ 9223372036854775807) : Ret Try.prog 9 [.slice A al.length c] W (Done W) := by
  apply S9_calls
  refine (shown_ok W).use ?_
  rintro v w1 ⟨rfl, f1⟩
  refine ⟨_, rfl, ?_⟩
  have fl : Fr none1 w1 (w1.alloc (.cells ⟨[]⟩ 28)) := Fr.alloc _ _
  refine (few_ok h (f1.trans' fl).bel0 (Nat.le_refl _) hc hm).use ?_
  rintro v w2 ⟨rfl, rfl⟩
  have hclW := fw_cls h
  have hfl := (fw_len al)
  have hsmall := fw_small (al := al)
  generalize fw al = xs at hclW hfl hsmall
  have hcl := hclW.fr0 f1
  have hcl' := cms_len xs
  refine ⟨_, _, _, rfl, ?_⟩
  -- the copy: of nothing, or of some
  by_cases h0 : xs.length = 0
  · have hx0 : xs = [] := List.eq_nil_of_length_eq_zero h0
    subst hx0
    have lit := Own.lit w1 28 2 0 [] (by simp) (by simp)
    obtain ⟨A2, c2, w2, r2, o2, f2, _⟩ := run_append (ty := 22) (m := 0) (c2 := c) Ecl lit (news := []) (by simp) (Rd.nil _ (fun _ => True) A) (by simp) (by omega) (by simp only [maxLen]; omega)
    have f02 : Fr none1 w1 w2 := fl.trans f2 fun k hk ⟨a, ha, e⟩ => by cases ha; simp only at e; omega
    refine ⟨A2, 0, c2, w2, r2, ?_⟩
    refine (Order_ok (A := A2) (xs := []) (ok := fun _ => True) ⟨.inl rfl, by simp, by simp⟩ c2).use ?_
    rintro v w3 ⟨hv, f3⟩
    have e : OrdC (cms []) = some [] := by
      unfold OrdC
      rw [if_pos (rightB_iff.2 ⟨by simp [cms], by simp [cms], by simp [cms]⟩)]; rfl
    rw [e] at hv
    obtain ⟨A3, c3, rfl, _⟩ := hv
    exact ⟨_, _, _, _, rfl, cF rfl (cT rfl ⟨rfl, f1.trans' (f02.trans' f3)⟩)⟩
  obtain ⟨gy, cy, w3, r3, y3, f3⟩ := cls_append hcl f1.size (by omega) c
  refine ⟨_, _, cy, w3, r3, ?_⟩
  refine (Order_ok y3.cls cy).use ?_
  rintro v w4 ⟨hv, f4⟩
  obtain ⟨Ao, co, rfl, oo⟩ := hv.out
  have f04 := f1.trans' (f3.trans' f4)
  refine ⟨_, _, _, _, rfl, ?_⟩
  cases ho : OrdC (cms xs) with
  | none => exact cT rfl (cT rfl ⟨rfl, f04⟩)
  | some r =>
  have hor : ord (cms xs) = some r := by
    unfold OrdC at ho
    split at ho
    · exact ho
    · cases ho
  have hsafe : safeB (cms xs) = true := by unfold safeB; rw [ho]; rfl
  have hrl := (ord_told hor).2
  rw [hcl'] at hrl
  rw [ho] at oo
  simp only [Option.getD_some, Option.isSome_some] at oo ⊢
  refine cF rfl (cF (decide_eq_false (by omega)) ?_)
  cases r with
  | nil => simp at hrl; omega
  | cons a t =>
  obtain ⟨ha, hfree⟩ := ord_first hor
  rw [hcl'] at ha
  have hxa : xs[a]? = some xs[a] := List.getElem?_eq_getElem ha
  have hsx := hsmall _ (List.mem_of_getElem? hxa)
  generalize xs[a] = x at hxa hsx
  have hga := g_at hxa
  have y4 := (y3.yt).fr0 f4
  obtain ⟨t4, ht4, hc4⟩ := int_at oo.rd (l := natI (a :: t)) (i := 0) (x := (a : Int)) rfl
  refine ⟨t4, ht4, by omega, by simp only [List.length_cons]; omega, _, hc4, ?_⟩
  refine cF (decide_eq_false (by omega)) ?_
  rw [decide_eq_false (by omega : ¬ (xs.length : Int) ≤ (a : Int))]
  refine cF rfl ?_
  -- whose turn it is
  have e2 : Int.toNat (a : Int) * 2 = a * 2 + 0 := by rw [Int.toNat_natCast]; rfl
  have a0 : (⟨gy, 0, none⟩ : Addr).add (a * 2 + 0) = ⟨gy, a * 2 + 0, none⟩ := add_g _ _
  obtain ⟨t5, ht5, _, _, d1, hR5⟩ := cl_at y4.cls hxa
  cases ht5
  refine ⟨_, rfl, by omega, by omega, _, _, _, d1, ?_⟩
  have hge := y4.ge
  have gF : ∀ {u u' : World}, Fr (fun k => k = gy) u u' → Bel W.heap.size u u' := fun f => f.bel fun k e => by subst e; exact hge
  have rn : Rd W (fun k => k < W.heap.size) x.nA (ints x.n) := (hclW.2.1 x (List.mem_of_getElem? hxa)).2.1
  have y0 : Yt W.heap.size w4 gy cy (xs.set a ⟨x.hA, x.hc, x.h, x.nA, x.nc, x.n⟩) := by
    rw [show (⟨x.hA, x.hc, x.h, x.nA, x.nc, x.n⟩ : Cl) = x from rfl, List.set_getElem?_self' hxa]; exact y4
  refine ⟨fun s w' => ∃ (i : Nat) (hA : Option Addr) (hcp : Nat) (hl : List Int), s.1 = (i : Int) ∧ i ≤ x.n.length ∧ hl.length ≤ 40 + i ∧ (∀ z ∈ hl, z ∈ x.h ∨ z ∈ x.n) ∧ Yt W.heap.size w' gy cy (xs.set a ⟨hA, hcp, hl, x.nA, x.nc, x.n⟩) ∧ Bel W.heap.size W w', fun s _ => x.n.length - s.1.toNat, ⟨0, x.hA, x.hc, x.h, rfl, Nat.zero_le _, by omega, fun z hz => .inl hz, y0, f04.bel0⟩, ?_⟩
  clear y0 y4 hR5 d1 y3 oo hc4 ht4
  rintro J ⟨i', ⟨⟩⟩ w5 ⟨i, hA, hcp, hl, hi, hil, hll, hsub, y5, g5⟩
  dsimp only at hi ⊢
  subst hi
  have hset : ∀ z : Cl, (xs.set a z).length = xs.length := fun z => List.length_set
  have hxs : (xs.set a ⟨hA, hcp, hl, x.nA, x.nc, x.n⟩)[a]? = some ⟨hA, hcp, hl, x.nA, x.nc, x.n⟩ := by rw [List.getElem?_set_self ha]
  have hcm : cms (xs.set a ⟨hA, hcp, hl, x.nA, x.nc, x.n⟩) = (cms xs).set a (hl, (g (cms xs) a).2) := by rw [cms_set, hga]
  have hsubg : ∀ z ∈ hl, z ∈ (g (cms xs) a).1 ∨ z ∈ (g (cms xs) a).2 := by rw [hga]; exact hsub
  refine cD (fun hlt => ?_) (fun hlt => ?_)
  · have hlt' : i < x.n.length := by have : (i : Int) < (x.n.length : Int) := hlt; omega
    have hz : x.n[i]? = some x.n[i] := List.getElem?_eq_getElem hlt'
    generalize x.n[i] = z at hz
    have rn5 := rn.fr g5 fun k hk ho hf => by
      have ho : k < W.heap.size := ho
      have hf : W.heap.size ≤ k := hf
      omega
    obtain ⟨t6, ht6, hc6⟩ := int_at rn5 hz
    have f6 : Fr none1 w5 (w5.alloc (.cells ⟨[.int .i64 z]⟩ 3)) := Fr.alloc _ _
    have b6 := Blk.new w5 3 [.int .i64 z]
    have y6 := y5.fr0 f6
    obtain ⟨t7, ht7, _, d0, _, hR7⟩ := cl_at y6.cls hxs
    cases ht7
    refine ⟨t6, ht6, by omega, by omega, _, hc6, _, rfl, by omega, by omega, _, _, _, d0, ?_⟩
    have hmt := meets_ok (l := [z]) (k := hl) (rd_blk b6) hR7.1 (by simp) (by omega) 1 hcp
    refine hmt.use ?_
    rintro v w6 ⟨rfl, hw6⟩
    subst hw6
    have g6 := g5.trans' f6.bel0
    have next : ∀ {u} (hA' : Option Addr) (hc' : Nat) (hl' : List Int), hl'.length ≤ 40 + (i + 1) → (∀ z ∈ hl', z ∈ x.h ∨ z ∈ x.n) → Yt W.heap.size u gy cy (xs.set a ⟨hA', hc', hl', x.nA, x.nc, x.n⟩) → Bel W.heap.size W u →
        (∃ (i_1 : Nat) (hA : Option Addr) (hcp : Nat) (hl : List Int), IntKind.i64.wrap ((i : Int) + 1) = (i_1 : Int) ∧ i_1 ≤ x.n.length ∧ hl.length ≤ 40 + i_1 ∧ (∀ z ∈ hl, z ∈ x.h ∨ z ∈ x.n) ∧ Yt W.heap.size u gy cy (xs.set a ⟨hA, hcp, hl, x.nA, x.nc, x.n⟩) ∧ Bel W.heap.size W u) ∧ x.n.length - (IntKind.i64.wrap ((i : Int) + 1)).toNat < x.n.length - (i : Int).toNat := by
      intro u hA' hc' hl' h1 h2 h3 h4
      rw [nextI (by omega)]
      exact ⟨⟨i + 1, hA', hc', hl', rfl, by omega, h1, h2, h3, h4⟩, by omega⟩
    refine ⟨_, rfl, cN2 (fun e => ?_) (fun e => next hA hcp hl (by omega) hsub y6 g6)⟩
    have hzn : z ∉ hl := disj_iff.1 e z (by simp)
    have hzm := List.mem_of_getElem? hz
    have hmay := May_ok y6.cls cy (a : Int) z
    rw [hset] at hmay
    refine hmay.use ?_
    rintro v w7 ⟨rfl, f7⟩
    rw [hcm, goes_may (by omega) hsafe hfree hsubg (by rw [hga]; exact hzm) hzn]
    refine ⟨_, rfl, cF rfl ?_⟩
    have y7 := y6.fr0 f7
    have g7 := g6.trans' f7.bel0
    have hW7 := g7.size
    -- the hold's copy
    have lit := Own.lit w7 3 1 0 [] (by simp) (by simp)
    have f8 : Fr none1 w7 (w7.alloc (.cells ⟨[]⟩ 3)) := Fr.alloc _ _
    have y8 := y7.fr0 f8
    obtain ⟨t8, ht8, _, d8, _, hR8⟩ := cl_at y8.cls hxs
    cases ht8
    obtain ⟨A9, c9, w9, r9, o9, f9, _⟩ := run_append (ty := 26) (m := hl.length) (c2 := hcp) Eint lit (by rw [Go.Eng.ints_length, Nat.mul_one]) hR8.1 (ints_one _) (by omega) (by simp only [maxLen]; omega)
    rw [Nat.zero_add] at r9 o9
    rw [List.nil_append] at o9
    have f79 : Fr none1 w7 w9 := f8.trans f9 fun k hk ⟨a, ha, e⟩ => by cases ha; simp only at e; omega
    have o9' := o9.mono (ok' := from1 w7.heap.size) fun k _ hk => by
      rcases hk with hk | hk
      · exact Nat.le_of_eq hk.symm
      · have := f8.size; show w7.heap.size ≤ k; omega
    have lit2 := Own.lit w9 3 1 1 [.int .i64 z] rfl (by simp [maxLen])
    have f10 : Fr none1 w9 (w9.alloc (.cells ⟨[.int .i64 z]⟩ 3)) := Fr.alloc _ _
    have o10 := o9'.fr f10 fun _ _ _ h => h
    obtain ⟨A11, c11, w11, r11, o11, f11, _⟩ := run_append (ty := 26) (m := 1) (c2 := 1) Eint o10 rfl lit2.rd (fun v hv => by simp at hv; subst hv; rfl) (by omega) (by simp only [maxLen]; omega)
    have f711 : Fr none1 w7 w11 := (f79.trans' f10).trans f11 fun k hk ⟨a, ha, e⟩ => by
      have : w7.heap.size ≤ a.block := (o10.has a ha).1
      omega
    have y11 := y7.fr0 f711
    have ez : ints hl ++ [.int .i64 z] = ints (hl ++ [z]) := by simp [ints]
    rw [ez] at o11
    have hle11 := o11.le
    have hR11 : ClR w11 (okT W.heap.size w11) ⟨A11, c11, hl ++ [z], x.nA, x.nc, x.n⟩ := by
      obtain ⟨_, q2, _, q4, _, q6⟩ := y11.2.1 _ (List.mem_of_getElem? hxs)
      refine ⟨?_, q2, by simp; omega, q4, ?_, q6⟩
      · exact (o11.tight (ts := [3]) (by simp)).rd.mono fun k _ hk => .inr hk.2
      · show (hl ++ [z]).length ≤ c11
        rw [List.length_append]; exact hle11
    obtain ⟨n1, n2, n3, n4⟩ := y11.put (j := 0) (y' := ⟨A11, c11, hl ++ [z], x.nA, x.nc, x.n⟩) (v := .slice A11 (hl.length + 1) c11) hxs (by decide) (by unfold clc; rw [List.length_append]; rfl) hR11
    rw [List.set_set] at n3
    refine ⟨_, rfl, by omega, by omega, _, _, _, d8, A9, _, c9, w9, r9, A11, _, c11, w11, r11, _, rfl, by omega, by omega, by rw [e2, a0]; exact n1, by rw [e2, a0]; exact n2, ?_⟩
    rw [e2, a0]
    have hsf := Safe_ok n3.cls cy
    rw [hset] at hsf
    refine hsf.use ?_
    rintro v w12 ⟨rfl, f12⟩
    have hsub' : ∀ y ∈ hl ++ [z], y ∈ x.h ∨ y ∈ x.n := fun y hy => by
      rcases List.mem_append.1 hy with hy | hy
      · exact hsub y hy
      · rw [List.mem_singleton] at hy; subst hy; exact .inr hzm
    have hcm2 : cms (xs.set a ⟨A11, c11, hl ++ [z], x.nA, x.nc, x.n⟩) = (cms xs).set a (hl ++ [z], (g (cms xs) a).2) := by rw [cms_set, hga]
    rw [hcm2, goes_safe (by omega) hsafe hfree (by rw [hga]; exact hsub')]
    exact ⟨_, rfl, cF rfl (next A11 c11 (hl ++ [z]) (by simp; omega) hsub' (n3.fr0 f12) (g7.trans' (f711.bel0.trans' ((gF n4).trans' f12.bel0))))⟩
  · refine cT rfl ?_
    have hle5 := y5.1.le
    have hcap : cy ≤ maxLen := by
      rcases y5.1.2 with ⟨h1, _⟩ | ⟨_, _, _, _, _, _, h6, _⟩
      · cases h1
      · exact h6
    simp only [maxLen] at hcap
    have hwo := without_ok y5.cls (c := cy) (by omega) hcap (i := a) (by rw [hset]; exact ha)
    rw [hset] at hwo
    refine hwo.use ?_
    rintro v w6 ⟨A6, c6, rfl, cl6, f6⟩
    refine ⟨_, _, _, rfl, ?_⟩
    refine (Safe_ok cl6 c6).use ?_
    rintro v w7 ⟨rfl, f7⟩
    have e6 : cms ((xs.set a ⟨hA, hcp, hl, x.nA, x.nc, x.n⟩).eraseIdx a) = (cms xs).eraseIdx a := by rw [cms_erase, hcm, List.eraseIdx_set_eq]
    rw [e6, safe_gone (by omega) hsafe]
    exact ⟨_, rfl, rfl, (g5.trans' (f6.bel0.trans' f7.bel0)).top⟩
end
end Go.Proofs
