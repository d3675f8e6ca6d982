/- Claims: contracts of the reference. -/
import Derived.Test.YtlmbbcmaellkoaaBkE08
set_option linter.unusedVariables false
namespace Go.Proofs
open Go Go.Eng
theorem findSome_range {α : Type} {F : Nat → Option α} {i : Nat} {y : α} : ∀ {n : Nat}, i < n → (∀ j, j < i → F j = none) → F i = some y → (List.range n).findSome? F = some y
  | 0, h, _, _ => absurd h (Nat.not_lt_zero i)
  | n + 1, h, hn, hy => by
    rw [List.range_succ, List.findSome?_append]
    by_cases e : i = n
    · subst e
      have : (List.range i).findSome? F = none := by
        rw [List.findSome?_eq_none_iff]
        exact fun j hj => hn j (List.mem_range.1 hj)
      rw [this]
      simp [hy]
    · rw [findSome_range (n := n) (by omega) hn hy]; rfl
theorem Zbool (w : World) : (zeroValue 4).run Try.prog w = .ok (.bool false) w := by kernel_rfl
theorem Mbool : MkT Try.prog 40 4 (.bool false) 1 := ⟨Ebl.ut, _, rfl, rfl, rfl, rfl, rfl⟩
def bls (l : List Bool) : List Value := l.map .bool
theorem bls_len (l : List Bool) : (bls l).length = l.length := by simp [bls]
theorem bls_one (l : List Bool) : ∀ v ∈ bls l, v.oneCell' = true := by
  intro u hu
  obtain ⟨b, _, rfl⟩ := List.mem_map.1 hu
  rfl
theorem bls_get {l : List Bool} {i : Nat} {b : Bool} (h : l[i]? = some b) : (bls l)[i]? = some (.bool b) := by simp [bls, h]
theorem ints_one (l : List Int) : ∀ v ∈ ints l, v.oneCell' = true := by
  intro u hu
  obtain ⟨b, _, rfl⟩ := List.mem_map.1 hu
  rfl
section
variable {w : World} {ok ok2 : Nat → Prop} {A A2 : Option Addr} {xs : List Cl}
theorem rRight_ok (h : Cls w ok A xs) (c : Nat) : Ret Try.prog 17 [.slice A xs.length c] w fun v w' => v = .bool (rightB (cms xs)) ∧ Fr none1 w w' := by
  have hlx := h.2.2
  apply S17_calls
  refine cD (fun hlong => ?_) (fun hshort => ?_)
  · have : rightB (cms xs) = false := by
      rw [Bool.eq_false_iff]
      intro e
      have := (rightB_iff.1 e).1
      rw [cms_len] at this
      omega
    rw [this]; exact ⟨rfl, Fr.refl _ _⟩
  refine ⟨fun s w' => ∃ i : Nat, s.1 = (i : Int) ∧ i ≤ xs.length ∧ Rt (cms (xs.take i)) ∧ Fr none1 w w', fun s _ => xs.length - s.1.toNat, ⟨0, rfl, Nat.zero_le _, ⟨by simp [cms], by simp [cms]⟩, Fr.refl _ _⟩, ?_⟩
  rintro J ⟨i', ⟨⟩⟩ w1 ⟨i, hi, hil, hrt, f1⟩
  dsimp only at hi ⊢
  subst hi
  refine cD (fun hlt => ?_) (fun hlt => ?_)
  · have hlt' : i < xs.length := by have : (i : Int) < (xs.length : Int) := hlt; omega
    have hx : xs[i]? = some xs[i] := List.getElem?_eq_getElem hlt'
    generalize xs[i] = x at hx
    have hcs := cms_take hx
    have bad : ∀ {u}, Fr none1 w u → ¬ (okZ x.h = true ∧ okZ x.n = true ∧ ∀ a ∈ cms (xs.take i), disj x.h a.1 = true) → Value.bool false = .bool (rightB (cms xs)) ∧ Fr none1 w u := by
      intro u fu hb
      rw [not_right (i := i + 1) fun e => hb (by rw [hcs, Rt.snoc] at e; exact e.2)]
      exact ⟨rfl, fu⟩
    obtain ⟨t, ht, _, c0, c1, hr1, hr2, hl1, hl2⟩ := cl_at (h.fr0 f1) hx
    refine ⟨t, ht, by omega, by omega, _, _, _, c0, ?_⟩
    refine (zones_ok (c := x.hc) hr1 (by omega)).use ?_
    rintro v w1 ⟨rfl, rfl⟩
    refine ⟨_, rfl, ?_⟩
    cases hzh : okZ x.h with
    | false => exact cT rfl (cT rfl (bad f1 (by rw [hzh]; simp)))
    | true =>
    refine cF rfl ⟨t, ht, by omega, by omega, _, _, _, c1, ?_⟩
    refine (zones_ok (c := x.nc) hr2 (by omega)).use ?_
    rintro v w1 ⟨rfl, rfl⟩
    refine ⟨_, rfl, ?_⟩
    cases hzn : okZ x.n with
    | false => exact cT rfl (bad f1 (by rw [hzn]; simp))
    | true =>
    refine cF rfl ?_
    -- all ahead of it
    refine ⟨fun s w' => ∃ k : Nat, s.1 = (k : Int) ∧ k ≤ i ∧ (∀ j y, j < k → xs[j]? = some y → disj x.h y.h = true) ∧ Fr none1 w w', fun s _ => i - s.1.toNat, ⟨0, rfl, Nat.zero_le _, fun j y hj => absurd hj (Nat.not_lt_zero j), f1⟩, ?_⟩
    rintro J2 ⟨k', ⟨⟩⟩ w2 ⟨k, hk, hki, hno, f2⟩
    dsimp only at hk ⊢
    subst hk
    refine cD (fun hlt2 => ?_) (fun hlt2 => ?_)
    · have hlt2' : k < i := by have : (k : Int) < (i : Int) := hlt2; omega
      have hy : xs[k]? = some xs[k] := List.getElem?_eq_getElem (by omega)
      generalize xs[k] = y at hy
      refine ⟨fun s w' => ∃ j : Nat, s.1 = (j : Int) ∧ j ≤ x.h.length ∧ (∀ z ∈ x.h.take j, z ∉ y.h) ∧ Fr none1 w w', fun s _ => x.h.length - s.1.toNat, ⟨0, rfl, Nat.zero_le _, by simp, f2⟩, ?_⟩
      rintro J3 ⟨j', ⟨⟩⟩ w3 ⟨j, hj, hjl, hnj, f3⟩
      dsimp only at hj ⊢
      subst hj
      obtain ⟨t3, ht3, _, d0, _, _⟩ := cl_at (h.fr0 f3) hx
      refine ⟨t3, ht3, by omega, by omega, _, _, _, d0, cD (fun hlt3 => ?_) (fun hlt3 => ?_)⟩
      · have hlt3' : j < x.h.length := by have : (j : Int) < (x.h.length : Int) := hlt3; omega
        have hz : x.h[j]? = some x.h[j] := List.getElem?_eq_getElem hlt3'
        generalize x.h[j] = z at hz
        have f4 : Fr none1 w w3.drew := f3.trans' (Fr.drew w3)
        obtain ⟨t4, ht4, _, e0, _, er1, _, _, _⟩ := cl_at (h.fr0 f4) hx
        obtain ⟨t5, ht5, _, g0, _, gr1, _, gl1, _⟩ := cl_at (h.fr0 f4) hy
        obtain ⟨t6, ht6, hc6⟩ := int_at er1 hz
        refine ⟨t4, ht4, by omega, by omega, t5, ht5, by omega, by omega, _, _, _, e0, t6, ht6, by omega, by omega, z, hc6, _, _, _, g0, ?_⟩
        refine (in_ok (c := y.hc) gr1 (by omega) z).use ?_
        rintro v w4 ⟨rfl, hw4⟩
        subst hw4
        refine ⟨_, rfl, cB (fun e => ?_) (fun e => ?_)⟩
        · refine bad f4 fun hb => ?_
          have hm : (y.h, y.n) ∈ cms (xs.take i) := by
            unfold cms
            refine List.mem_map.2 ⟨y, ?_, rfl⟩
            exact List.mem_of_getElem? (i := k) (by rw [List.getElem?_take, if_pos hlt2']; exact hy)
          have := disj_iff.1 (hb.2.2 _ hm) z (List.mem_of_getElem? hz)
          simp at e
          exact this e
        · rw [nextI (by omega)]
          refine ⟨⟨j + 1, rfl, by omega, ?_, f4⟩, by dsimp only; omega⟩
          rw [take_snoc hz]
          intro z' hz'
          rcases List.mem_append.1 hz' with hz' | hz'
          · exact hnj z' hz'
          · rw [List.mem_singleton] at hz'; subst hz'; simpa using e
      · have hge : j = x.h.length := by have : ¬ (j : Int) < (x.h.length : Int) := hlt3; omega
        rw [hge, List.take_length] at hnj
        rw [nextI (by omega)]
        refine ⟨⟨k + 1, rfl, by omega, fun j y' hj hy' => ?_, f3⟩, by dsimp only; omega⟩
        by_cases e : j = k
        · subst e; rw [hy] at hy'; cases hy'; exact disj_iff.2 hnj
        · exact hno j y' (by omega) hy'
    · have hge : k = i := by have : ¬ (k : Int) < (i : Int) := hlt2; omega
      subst hge
      rw [nextI (by omega)]
      refine ⟨⟨k + 1, rfl, by omega, ?_, f2⟩, by dsimp only; omega⟩
      rw [hcs, Rt.snoc]
      refine ⟨hrt, hzh, hzn, fun a ha => ?_⟩
      unfold cms at ha
      obtain ⟨y, hy, rfl⟩ := List.mem_map.1 ha
      obtain ⟨j, hj⟩ := List.getElem?_of_mem hy
      rw [List.getElem?_take] at hj
      split at hj
      · rename_i hjk; exact hno j y hjk hj
      · cases hj
  · have hge : i = xs.length := by have : ¬ (i : Int) < (xs.length : Int) := hlt; omega
    rw [hge, List.take_length] at hrt
    rw [rightB_iff.2 ⟨by rw [cms_len]; omega, hrt⟩]
    exact ⟨rfl, f1⟩
theorem rcan_ok (h : Cls w ok A xs) {left : List Bool} (h2 : Rd w ok2 A2 (bls left)) (hll : left.length = xs.length) {b : Nat} {x : Cl} (hx : xs[b]? = some x) (c c2 : Nat) : Ret Try.prog 32 [.slice A xs.length c, .int .i64 (b : Int), .slice A2 left.length c2] w fun v w' => v = .bool (canR (cms xs) left b) ∧ Fr none1 w w' := by
  have hlx := h.2.2
  have hbl := (List.getElem?_eq_some_iff.1 hx).1
  apply S32_calls
  refine ⟨fun s w' => ∃ k : Nat, s.1 = (k : Int) ∧ k ≤ xs.length ∧ (∀ j, j < k → (!((left[j]?).getD false) || (j == b) || disj x.n (g (cms xs) j).1) = true) ∧ Fr none1 w w', fun s _ => xs.length - s.1.toNat, ⟨0, rfl, Nat.zero_le _, fun j hj => absurd hj (Nat.not_lt_zero j), Fr.refl _ _⟩, ?_⟩
  rintro J ⟨k', ⟨⟩⟩ w1 ⟨k, hk, hkl, hno, f1⟩
  dsimp only at hk ⊢
  subst hk
  refine cD (fun hlt => ?_) (fun hlt => ?_)
  · have hlt' : k < xs.length := by have : (k : Int) < (xs.length : Int) := hlt; omega
    have hy : xs[k]? = some xs[k] := List.getElem?_eq_getElem hlt'
    generalize xs[k] = y at hy
    have hlb : left[k]? = some left[k] := List.getElem?_eq_getElem (by omega)
    generalize left[k] = lb at hlb
    have go : ∀ {u}, Fr none1 w u → (!lb || (k == b) || disj x.n y.h) = true → (∃ k_1 : Nat, (IntKind.i64.wrap ((k : Int) + 1)) = (k_1 : Int) ∧ k_1 ≤ xs.length ∧ (∀ j, j < k_1 → (!((left[j]?).getD false) || (j == b) || disj x.n (g (cms xs) j).1) = true) ∧ Fr none1 w u) ∧ xs.length - (IntKind.i64.wrap ((k : Int) + 1)).toNat < xs.length - (k : Int).toNat := by
      intro u fu hb
      rw [nextI (by omega)]
      refine ⟨⟨k + 1, rfl, by omega, fun j hj => ?_, fu⟩, by omega⟩
      by_cases e : j = k
      · subst e; rw [hlb, g_at hy]; exact hb
      · exact hno j (by omega)
    obtain ⟨a2, ha2, _, hc2⟩ := (h2.fr f1 fun _ _ _ h => h).at (bls_get hlb)
    refine ⟨a2, ha2, by omega, by omega, lb, by rw [Int.toNat_natCast, Nat.mul_one]; exact hc2, ?_⟩
    have k3 : lb = true → k ≠ b → S32_k3 A xs.length c (b : Int) A2 left.length c2 (k : Int) w1 (fun v w' => v = .bool (canR (cms xs) left b) ∧ Fr none1 w w')
        (fun s' w'' => (∃ k : Nat, s'.1 = (k : Int) ∧ k ≤ xs.length ∧ (∀ j, j < k → (!((left[j]?).getD false) || (j == b) || disj x.n (g (cms xs) j).1) = true) ∧ Fr none1 w w'') ∧ xs.length - s'.1.toNat < xs.length - (k : Int).toNat) := by
      intro hlt hkb
      subst hlt
      refine ⟨fun s w' => ∃ j : Nat, s.1 = (j : Int) ∧ j ≤ x.n.length ∧ (∀ z ∈ x.n.take j, z ∉ y.h) ∧ Fr none1 w w', fun s _ => x.n.length - s.1.toNat, ⟨0, rfl, Nat.zero_le _, by simp, f1⟩, ?_⟩
      rintro J3 ⟨j', ⟨⟩⟩ w3 ⟨j, hj, hjl, hnj, f3⟩
      dsimp only at hj ⊢
      subst hj
      obtain ⟨t3, ht3, _, _, d1, _, _, _, hl2⟩ := cl_at (h.fr0 f3) hx
      refine ⟨t3, ht3, by omega, by omega, _, _, _, d1, cD (fun hlt3 => ?_) (fun hlt3 => ?_)⟩
      · have hlt3' : j < x.n.length := by have : (j : Int) < (x.n.length : Int) := hlt3; omega
        have hz : x.n[j]? = some x.n[j] := List.getElem?_eq_getElem hlt3'
        generalize x.n[j] = z at hz
        have f4 : Fr none1 w w3.drew := f3.trans' (Fr.drew w3)
        obtain ⟨t4, ht4, _, _, e1, _, er2, _, _⟩ := cl_at (h.fr0 f4) hx
        obtain ⟨t5, ht5, _, g0, _, gr1, _, gl1, _⟩ := cl_at (h.fr0 f4) hy
        obtain ⟨t6, ht6, hc6⟩ := int_at er2 hz
        refine ⟨t4, ht4, by omega, by omega, t5, ht5, by omega, by omega, _, _, _, e1, t6, ht6, by omega, by omega, z, hc6, _, _, _, g0, ?_⟩
        refine (in_ok (c := y.hc) gr1 (by omega) z).use ?_
        rintro v w4 ⟨rfl, hw4⟩
        subst hw4
        refine ⟨_, rfl, cB (fun e => ?_) (fun e => ?_)⟩
        · have : canR (cms xs) left b = false := by
            rw [Bool.eq_false_iff]
            unfold canR
            rw [ne_eq, List.all_eq_true]
            intro hall
            have := hall k (List.mem_range.2 (by rw [cms_len]; exact hlt'))
            rw [hlb, g_at hx, g_at hy] at this
            simp [hkb] at this
            simp at e
            exact disj_iff.1 this z (List.mem_of_getElem? hz) e
          rw [this]; exact ⟨rfl, f4⟩
        · rw [nextI (by omega)]
          refine ⟨⟨j + 1, rfl, by omega, ?_, f4⟩, by dsimp only; omega⟩
          rw [take_snoc hz]
          intro z' hz'
          rcases List.mem_append.1 hz' with hz' | hz'
          · exact hnj z' hz'
          · rw [List.mem_singleton] at hz'; subst hz'; simpa using e
      · have hge : j = x.n.length := by have : ¬ (j : Int) < (x.n.length : Int) := hlt3; omega
        rw [hge, List.take_length] at hnj
        exact go f3 (by rw [disj_iff.2 hnj]; simp)
    cases lb with
    | false => exact cT rfl (cT rfl (go f1 rfl))
    | true =>
      refine cF rfl (cD (fun e => go f1 (by have hkb : k = b := (by omega); subst hkb; simp)) (fun e => k3 rfl fun e2 => e (by rw [e2])))
  · have hge : k = xs.length := by have : ¬ (k : Int) < (xs.length : Int) := hlt; omega
    subst hge
    have : canR (cms xs) left b = true := by
      unfold canR
      rw [List.all_eq_true, cms_len, g_at hx]
      exact fun j hj => hno j (List.mem_range.1 hj)
    rw [this]; exact ⟨rfl, f1⟩
theorem rorder_ok (c : Nat) : ∀ (f : Nat) {w : World} {ok ok2 : Nat → Prop} {A2 : Option Addr} {left : List Bool} (h : Cls w ok A xs) (h2 : Rd w ok2 A2 (bls left)) (hll : left.length = xs.length) (hf : f ≤ 100) (c2 : Nat),
    Ret Try.prog 24 [.slice A xs.length c, .slice A2 left.length c2, .int .i64 (f : Int)] w fun v w' => OrdV (dfs (cms xs) f left) w.heap.size v w' ∧ Fr none1 w w'
  | 0, w, ok, ok2, A2, left, h, h2, hll, hf, c2 => by
    apply S24_calls
    exact cT rfl ⟨⟨none, 0, rfl, Own.nil _ _ _ _⟩, Fr.refl _ _⟩
  | f + 1, w, ok, ok2, A2, left, h, h2, hll, hf, c2 => by
    have hlx := h.2.2
    have ef : IntKind.i64.wrap (((f + 1 : Nat) : Int) - 1) = ((f : Nat) : Int) := by rw [IntWalk.i64_in _ (by omega)]; omega
    apply S24_calls
    refine cF (decide_eq_false (by omega)) ?_
    generalize hF : (fun i => if (left[i]?).getD false && canR (cms xs) left i then (dfs (cms xs) f (left.set i false)).map (i :: ·) else none) = F
    have hdfs : dfs (cms xs) (f + 1) left = (List.range xs.length).findSome? F := by rw [← hF, dfs, cms_len]
    refine ⟨fun s w' => ∃ i : Nat, s.1 = (i : Int) ∧ i ≤ xs.length ∧ (∀ j, j < i → F j = none) ∧ Fr none1 w w', fun s _ => xs.length - s.1.toNat, ⟨0, rfl, Nat.zero_le _, fun j hj => absurd hj (Nat.not_lt_zero j), Fr.refl _ _⟩, ?_⟩
    rintro J ⟨i', ⟨⟩⟩ w1 ⟨i, hi, hil, hno, f1⟩
    dsimp only at hi ⊢
    subst hi
    refine cD (fun hlt => ?_) (fun hlt => ?_)
    · have hlt' : i < xs.length := by have : (i : Int) < (xs.length : Int) := hlt; omega
      have hx : xs[i]? = some xs[i] := List.getElem?_eq_getElem hlt'
      generalize xs[i] = x at hx
      have hlb : left[i]? = some left[i] := List.getElem?_eq_getElem (by omega)
      generalize left[i] = lb at hlb
      have hFi : F i = if lb && canR (cms xs) left i then (dfs (cms xs) f (left.set i false)).map (i :: ·) else none := by rw [← hF]; simp only [hlb, Option.getD_some]
      have go : ∀ {u}, Fr none1 w u → F i = none → (∃ k_1 : Nat, (IntKind.i64.wrap ((i : Int) + 1)) = (k_1 : Int) ∧ k_1 ≤ xs.length ∧ (∀ j, j < k_1 → F j = none) ∧ Fr none1 w u) ∧ xs.length - (IntKind.i64.wrap ((i : Int) + 1)).toNat < xs.length - (i : Int).toNat := by
        intro u fu hb
        rw [nextI (by omega)]
        refine ⟨⟨i + 1, rfl, by omega, fun j hj => ?_, fu⟩, by omega⟩
        by_cases e : j = i
        · subst e; exact hb
        · exact hno j (by omega)
      obtain ⟨a2, ha2, _, hc2⟩ := (h2.fr f1 fun _ _ _ h => h).at (bls_get hlb)
      refine ⟨a2, ha2, by omega, by omega, lb, by rw [Int.toNat_natCast, Nat.mul_one]; exact hc2, ?_⟩
      cases lb with
      | false => exact cT rfl (cT rfl (go f1 (by rw [hFi]; rfl)))
      | true =>
      refine cF rfl ?_
      refine (rcan_ok (h.fr0 f1) (h2.fr f1 fun _ _ _ h => h) hll hx c c2).use ?_
      rintro v w2 ⟨rfl, f2⟩
      refine ⟨_, rfl, ?_⟩
      have f12 := f1.trans' f2
      cases hcan : canR (cms xs) left i with
      | false => exact cT rfl (go f12 (by rw [hFi, hcan]; rfl))
      | true =>
      refine cF rfl ?_
      -- the rest
      have lit := Own.lit w2 4 1 0 [] (by simp) (by simp)
      have f3 : Fr none1 w2 (w2.alloc (.cells ⟨[]⟩ 4)) := Fr.alloc _ _
      obtain ⟨A4, c4, w4, r4, o4, f4, _⟩ := run_append (ty := 40) (m := left.length) (c2 := c2) Ebl lit (by rw [bls_len, Nat.mul_one]) ((h2.fr f12 fun _ _ _ h => h).fr f3 fun _ _ _ h => h) (bls_one left) (by omega) (by simp only [maxLen]; omega)
      rw [Nat.zero_add] at r4 o4
      rw [List.nil_append] at o4
      have hs2 : w.heap.size ≤ w2.heap.size := f12.size
      have f24 : Fr none1 w2 w4 := f3.trans f4 fun k hk ⟨a, ha, e⟩ => by cases ha; simp only at e; omega
      have o4' := o4.mono (ok' := from1 w2.heap.size) fun k _ hk => by
        rcases hk with hk | hk
        · exact Nat.le_of_eq hk.symm
        · have := f3.size; show w2.heap.size ≤ k; omega
      obtain ⟨g4, rfl, hg4, _⟩ := o4'.form (by omega)
      refine ⟨_, _, c4, w4, r4, ⟨g4, 0, none⟩, rfl, by omega, by omega, ?_⟩
      have hst := o4'.store (j := i) (by rw [bls_len]; omega)
      have o5 := o4'.set i (.bool false)
      have e5 : (bls left).set i (.bool false) = bls (left.set i false) := by unfold bls; rw [List.map_set]
      rw [e5] at o5
      have fs : Fr (fun k => k = g4) w4 (w4.setCell ⟨g4, i, none⟩ (.bool false)) := Fr.setCell (F := fun k => k = g4) w4 rfl _
      have f25 : Fr none1 w2 (w4.setCell ⟨g4, i, none⟩ (.bool false)) := f24.trans fs fun k hk e => by
        have e : k = g4 := e
        have : w2.heap.size ≤ g4 := hg4
        omega
      rw [add_g, Int.toNat_natCast, Nat.mul_one, ef]
      refine ⟨hst.1, hst.2, ?_⟩
      generalize w4.setCell ⟨g4, i, none⟩ (.bool false) = w5 at o5 f25
      have f15 := f12.trans' f25
      have hll' : (left.set i false).length = left.length := List.length_set
      have ih := rorder_ok c f (h.fr0 f15) (left := left.set i false) o5.rd (by omega) (by omega) c4
      rw [hll'] at ih
      refine ih.use ?_
      rintro v w6 ⟨hv, f6⟩
      obtain ⟨A6, c6, rfl, o6⟩ := hv.out
      have f16 := f15.trans' f6
      refine ⟨_, _, _, _, rfl, ?_⟩
      cases hd : dfs (cms xs) f (left.set i false) with
      | none =>
        refine cF rfl (go f16 ?_)
        rw [hFi, hcan, hd]; rfl
      | some r =>
        rw [hd] at o6
        simp only [Option.getD_some] at o6 ⊢
        refine cT rfl ?_
        have hrl : r.length ≤ 100 := by
          have : r.length = f := by
            have : ∀ (f : Nat) (left : List Bool) (r : List Nat), dfs (cms xs) f left = some r → r.length = f := by
              intro f
              induction f with
              | zero => intro left r h; simp [dfs] at h; subst h; rfl
              | succ f ih =>
                intro left r h
                rw [dfs] at h
                obtain ⟨l1, a, l2, _, h2, _⟩ := List.findSome?_eq_some_iff.1 h
                split at h2
                · cases hd : dfs (cms xs) f (left.set a false) with
                  | none => rw [hd] at h2; cases h2
                  | some t =>
                    rw [hd] at h2
                    simp at h2
                    rw [← h2, List.length_cons, ih _ _ hd]
                · cases h2
            exact this f _ r hd
          omega
        have lit6 := Own.lit w6 3 1 1 [.int .i64 (i : Int)] rfl (by simp [maxLen])
        have f7 : Fr none1 w6 (w6.alloc (.cells ⟨[.int .i64 (i : Int)]⟩ 3)) := Fr.alloc _ _
        obtain ⟨A8, c8, w8, r8, o8, f8, _⟩ := run_append (ty := 26) (m := r.length) (c2 := c6) Eint lit6 (by rw [Go.Eng.ints_length, natI_len, Nat.mul_one]) (o6.fr f7 fun _ _ _ h => h).rd (ints_one _) (by omega) (by simp only [maxLen]; omega)
        have hs6 : w.heap.size ≤ w6.heap.size := f16.size
        refine ⟨A8, _, c8, w8, r8, ?_⟩
        have hF2 : F i = some (i :: r) := by rw [hFi, hcan, hd]; rfl
        rw [hdfs, findSome_range hlt' hno hF2]
        refine ⟨⟨A8, c8, by simp only [List.length_cons, Nat.add_comm], ?_⟩, f16.trans' (f7.trans f8 fun k hk ⟨a, ha, e⟩ => by cases ha; simp only at e; omega)⟩
        have e9 : ints (natI (i :: r)) = [.int .i64 (i : Int)] ++ ints (natI r) := by simp [natI, ints]
        rw [e9, List.length_cons, Nat.add_comm r.length 1]
        refine o8.mono fun k _ hk => ?_
        rcases hk with hk | hk
        · show w.heap.size ≤ k
          omega
        · have := f7.size; show w.heap.size ≤ k; omega
    · have hge : i = xs.length := by have : ¬ (i : Int) < (xs.length : Int) := hlt; omega
      subst hge
      have : dfs (cms xs) (f + 1) left = none := by
        rw [hdfs, List.findSome?_eq_none_iff]
        exact fun j hj => hno j (List.mem_range.1 hj)
      rw [this]
      exact ⟨rfl, f1⟩
theorem rOrder_ok (h : Cls w ok A xs) (c : Nat) : Ret Try.prog 15 [.slice A xs.length c] w fun v w' => OrdV (OrdC (cms xs)) w.heap.size v w' ∧ Fr none1 w w' := by
  have hlx := h.2.2
  apply S15_calls
  refine (rRight_ok h c).use ?_
  rintro v w1 ⟨rfl, f1⟩
  refine ⟨_, rfl, ?_⟩
  cases hr : rightB (cms xs) with
  | false =>
    have e : OrdC (cms xs) = none := by unfold OrdC; rw [if_neg (by rw [hr]; decide)]
    rw [e]
    exact cT rfl ⟨rfl, f1⟩
  | true =>
    have e : OrdC (cms xs) = ord (cms xs) := by unfold OrdC; rw [if_pos hr]
    rw [e]
    refine cF rfl ?_
    have hmk := run_mk Mbool w1 xs.length (by omega) (by simp only [maxLen]; omega)
    have f2 : Fr none1 w1 (w1.alloc (.cells ⟨List.replicate xs.length (.bool false)⟩ 4)) := Fr.alloc _ _
    have o2 := Own.lit w1 4 1 xs.length (List.replicate xs.length (.bool false)) (by simp) (by simp only [maxLen]; omega)
    refine ⟨_, _, _, _, hmk, ?_⟩
    have hs1 : w.heap.size ≤ w1.heap.size := f1.size
    have e0 : List.replicate xs.length (Value.bool false) = bls (List.replicate 0 true ++ List.replicate (xs.length - 0) false) := by simp [bls]
    rw [e0] at o2
    generalize hg : w1.heap.size = g1 at *
    refine ⟨fun s w' => ∃ i : Nat, s.1 = (i : Int) ∧ i ≤ xs.length ∧ Own w' 4 1 (fun k => k = g1) (some ⟨g1, 0, none⟩) xs.length xs.length (bls (List.replicate i true ++ List.replicate (xs.length - i) false)) ∧ Fr none1 w1 w', fun s _ => xs.length - s.1.toNat, ⟨0, rfl, Nat.zero_le _, by rw [← e0] at o2 ⊢; exact o2, by rw [← e0] at *; exact f2⟩, ?_⟩
    rintro J ⟨i', ⟨⟩⟩ w3 ⟨i, hi, hil, o3, f3⟩
    dsimp only at hi ⊢
    subst hi
    refine cD (fun hlt => ?_) (fun hlt => ?_)
    · have hlt' : i < xs.length := by have : (i : Int) < (xs.length : Int) := hlt; omega
      have hst := o3.store (j := i) (by rw [bls_len]; simp; omega)
      have o4 := o3.set i (.bool true)
      have e4 : (bls (List.replicate i true ++ List.replicate (xs.length - i) false)).set i (.bool true) = bls (List.replicate (i + 1) true ++ List.replicate (xs.length - (i + 1)) false) := by
        unfold bls
        rw [← List.map_set]
        congr 1
        obtain ⟨m, hm⟩ : ∃ m, xs.length - i = m + 1 := ⟨xs.length - i - 1, by omega⟩
        rw [List.set_append_right _ _ (by simp), hm, List.replicate_succ, show xs.length - (i + 1) = m by omega]
        simp [List.replicate_succ']
      rw [e4] at o4
      refine ⟨⟨g1, 0, none⟩, rfl, by omega, by omega, ?_⟩
      rw [add_g, Int.toNat_natCast, Nat.mul_one, nextI (by omega)]
      refine ⟨hst.1, hst.2, ⟨i + 1, rfl, by omega, o4, f3.trans (Fr.setCell (F := fun k => k = g1) w3 rfl _) fun k hk e => by have e : k = g1 := e; omega⟩, by dsimp only; omega⟩
    · have hge : i = xs.length := by have : ¬ (i : Int) < (xs.length : Int) := hlt; omega
      subst hge
      rw [Nat.sub_self, List.replicate_zero, List.append_nil] at o3
      have f13 := f1.trans' f3
      have hll : (List.replicate xs.length true).length = xs.length := List.length_replicate
      have ho := rorder_ok (A := A) (xs := xs) c xs.length (h.fr0 f13) o3.rd hll (by omega) xs.length
      rw [hll] at ho
      refine ho.use ?_
      rintro v w4 ⟨hv, f4⟩
      have e5 : dfs (cms xs) xs.length (List.replicate xs.length true) = ord (cms xs) := by
        have := dfs_ord (cms xs)
        rw [cms_len] at this
        exact this
      rw [e5] at hv
      have hs3 : w.heap.size ≤ w3.heap.size := f13.size
      cases hord : ord (cms xs) with
      | none =>
        rw [hord] at hv
        have hv : v = _ := hv
        subst hv
        exact ⟨_, _, _, _, rfl, rfl, f13.trans' f4⟩
      | some r =>
        rw [hord] at hv
        obtain ⟨A5, c5, rfl, o5⟩ := hv
        exact ⟨_, _, _, _, rfl, ⟨A5, c5, rfl, o5.mono fun k _ hk => Nat.le_trans hs3 hk⟩, f13.trans' f4⟩
end
end Go.Proofs
