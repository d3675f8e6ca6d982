import Derived.Test.YtgcoecbbgipgpaaHeapH
set_option linter.unusedVariables false
namespace Go.Proofs
open Go Go.Eng
def NumI (n : Nat) (zs : List It) : Prop := ∀ (i : Nat) (z : It), i < n → zs[i]? = some z → z.2 = (i : Int)
theorem insI_end (x : It) : ∀ S : List It, (∀ y ∈ S, y.1 ≤ x.1) → insI x S = S ++ [x]
  | [], _ => rfl
  | e :: S, h => by
    unfold insI
    rw [if_pos (h e (by simp)), insI_end x S fun y hy => h y (by simp [hy])]; rfl
theorem sumI_sorted : ∀ (ys pre : List It), (pre ++ ys).Pairwise (fun a b => a.1 ≤ b.1) → sumI pre ys = pre ++ ys
  | [], pre, _ => by simp [sumI]
  | y :: ys, pre, h => by
    have h1 : insI y pre = pre ++ [y] := insI_end y pre fun z hz => by
      rw [List.pairwise_append] at h
      exact h.2.2 z hz y (by simp)
    have h2 := sumI_sorted ys (pre ++ [y]) (by rw [List.append_assoc]; exact h)
    unfold sumI at h2 ⊢
    rw [List.foldl_cons, h1, h2, List.append_assoc]; rfl
theorem sorted_again (xs : List It) : sorted (sorted xs) = sorted xs := by
  have h : sorted (sorted xs) = sumI [] (sorted xs) := by unfold sorted; rw [pushAll_itm]; rfl
  rw [h, sumI_sorted (sorted xs) [] (by simpa using sorted_keys xs)]
  rfl
theorem srt_val {zs : List It} (h : NumI zs.length zs) {i : Nat} {e : En} (he : (srt zs)[i]? = some e) : e.2.1 = e.2.2 ∧ ∃ v : Nat, e.2.1 = (v : Int) ∧ zs[v]? = some (itm e) := by
  have hm := (srt_perm zs).mem_iff.1 (List.mem_of_getElem? he)
  obtain ⟨v, h1, h2⟩ := ents_mem zs 0 e hm
  rw [Nat.zero_add] at h2
  have h3 := h v _ (List.getElem?_eq_some_iff.1 h1).1 h1
  exact ⟨by rw [h2]; exact h3, v, h3, h1⟩
theorem srt_step {zs : List It} {i : Nat} {e e' : En} (he : (srt zs)[i]? = some e) (he' : (srt zs)[i + 1]? = some e') : lt e e' := by
  obtain ⟨h1, rfl⟩ := List.getElem?_eq_some_iff.1 he
  obtain ⟨h2, rfl⟩ := List.getElem?_eq_some_iff.1 he'
  exact List.pairwise_iff_getElem.1 (srt_srt zs) i (i + 1) h1 h2 (by omega)
section
variable {W : World}
theorem stays_cmp {w : World} {okx oky : Nat → Prop} {Ax Ay : Option Addr} {cx cy : Nat} {zs : List It} (hz : NumI zs.length zs) (hx : Rd w okx Ax (rws it2 zs)) (hy : Rd w oky Ay (rws it2 (sorted zs))) (f : Fr none1 W w) (hl : zs.length ≤ 500) :
    S7_k3 true Ax zs.length cx Ay zs.length cy w (Done W) := by
  refine ⟨fun s w' => ∃ n : Nat, s.1 = (n : Int) ∧ n ≤ zs.length ∧ Fr none1 w w', fun s _ => zs.length - s.1.toNat, ⟨0, rfl, Nat.zero_le _, Fr.refl _ _⟩, ?_⟩
  rintro J ⟨i, ⟨⟩⟩ w1 ⟨n, hi, hn, f1⟩
  dsimp only at hi ⊢
  subst hi
  refine cD (fun hlt => ?_) (fun hlt => ?_)
  · have hn' : n < zs.length := by omega
    have d : Fr none1 w1 w1.drew := Fr.drew w1
    have f2 := f1.trans' d
    have l1 : n < (srt zs).length := by rw [srt_len]; omega
    have es : (srt zs)[n]? = some (srt zs)[n] := List.getElem?_eq_getElem l1
    have ey : (sorted zs)[n]? = some (itm (srt zs)[n]) := by unfold sorted; rw [List.getElem?_map]; unfold srt at es; rw [es]; rfl
    obtain ⟨hval, v, hv, hzv⟩ := srt_val hz es
    have hvl := (List.getElem?_eq_some_iff.1 hzv).1
    obtain ⟨ay, rfl, _, qy0⟩ := (hy.fr f1 fun _ _ _ h => h).elem it2_len ey (by decide)
    obtain ⟨ay', e, _, qy⟩ := (hy.fr f2 fun _ _ _ h => h).elem it2_len ey (by decide)
    cases e
    obtain ⟨ax, rfl, _, qx⟩ := (hx.fr f2 fun _ _ _ h => h).elem it2_len hzv (by decide)
    have qx0 := qx 0 _ (by decide) rfl
    have qy00 := qy 0 _ (by decide) rfl
    rw [add_zero'] at qx0 qy00
    have hv2 : (itm (srt zs)[n]).2 = (v : Int) := hv
    refine ⟨_, rfl, by omega, by omega, (v : Int), by rw [Int.toNat_natCast, ← hv2]; exact qy0 1 _ (by decide) rfl, ?_⟩
    refine cF (by simp) (cF (by simp; omega) ?_)
    refine ⟨_, rfl, by omega, by omega, _, by rw [Int.toNat_natCast]; exact qx0, _, by rw [Int.toNat_natCast]; exact qx 1 _ (by decide) rfl, _, rfl, by omega, by omega, _, by rw [Int.toNat_natCast]; exact qy00, _, by rw [Int.toNat_natCast]; exact qy 1 _ (by decide) rfl, _, _, item_ne _ _ (itm (srt zs)[n]) (itm (srt zs)[n]) _, cF (by simp) ?_⟩
    have fin : ∀ w3, Fr none1 w w3 → S7_k8 true (some ax) zs.length cx (some ay) zs.length cy (zs.length : Int) (n : Int) false w3 (Done W) (fun s' w'' => (∃ n : Nat, s'.1 = (n : Int) ∧ n ≤ zs.length ∧ Fr none1 w w'') ∧ zs.length - s'.1.toNat < zs.length - (n : Int).toNat) := by
      intro w3 f3
      refine cF rfl ?_
      rw [IntWalk.i64_in ((n : Int) + 1) (by omega)]
      exact ⟨⟨n + 1, rfl, by omega, f3⟩, by dsimp only; omega⟩
    have d2 : Fr none1 w1.drew w1.drew.drew := Fr.drew _
    have f3 := f2.trans' d2
    refine cD (fun h0 => ?_) (fun h0 => fin _ f3)
    obtain ⟨p, rfl⟩ : ∃ p, n = p + 1 := ⟨n - 1, by omega⟩
    rw [IntWalk.i64_in (((p + 1 : Nat) : Int) - 1) (by omega), show (((p + 1 : Nat) : Int) - 1) = (p : Int) by omega]
    have l2 : p < (srt zs).length := by omega
    have es2 : (srt zs)[p]? = some (srt zs)[p] := List.getElem?_eq_getElem l2
    have ey2 : (sorted zs)[p]? = some (itm (srt zs)[p]) := by unfold sorted; rw [List.getElem?_map]; unfold srt at es2; rw [es2]; rfl
    have hstep := srt_step es2 es
    obtain ⟨hval2, v2, hv2', _⟩ := srt_val hz es2
    obtain ⟨ay', e, _, qp⟩ := (hy.fr f3 fun _ _ _ h => h).elem it2_len ey2 (by decide)
    cases e
    obtain ⟨ay', e, _, qn⟩ := (hy.fr f3 fun _ _ _ h => h).elem it2_len ey (by decide)
    cases e
    have qp0 := qp 0 _ (by decide) rfl
    have qn0 := qn 0 _ (by decide) rfl
    rw [add_zero'] at qp0 qn0
    have hlt2 : (srt zs)[p].1 < (srt zs)[p + 1].1 ∨ ((srt zs)[p].1 = (srt zs)[p + 1].1 ∧ (srt zs)[p].2.1 < (srt zs)[p + 1].2.1) := by unfold lt at hstep; omega
    refine ⟨_, rfl, by omega, by omega, _, rfl, by omega, by omega, _, by rw [Int.toNat_natCast]; exact qp0, _, by rw [Int.toNat_natCast]; exact qn0, ?_⟩
    refine cD (fun hbad => ?_) (fun _ => ?_)
    · unfold itm at hbad; simp only at hbad; omega
    · refine ⟨_, rfl, by omega, by omega, _, rfl, by omega, by omega, _, by rw [Int.toNat_natCast]; exact qp0, _, by rw [Int.toNat_natCast]; exact qn0, ?_⟩
      refine cD (fun heq => ?_) (fun _ => fin _ f3)
      refine ⟨_, rfl, by omega, by omega, _, by rw [Int.toNat_natCast]; exact qp 1 _ (by decide) rfl, ?_⟩
      have : decide ((v : Int) ≤ (itm (srt zs)[p]).2) = false := by
        rw [decide_eq_false]
        unfold itm at heq ⊢
        simp only at heq ⊢
        omega
      rw [this]
      exact fin _ f3
  · refine cT rfl ?_
    have hyl := sorted_len zs
    have s := sort_ok (c := cy) (hy.fr f1 fun _ _ _ h => h) (by rw [hyl]; omega)
    rw [hyl] at s
    refine s.use ?_
    rintro v w2 ⟨A2, c2, rfl, o2, f2⟩
    refine ⟨_, _, _, rfl, ?_⟩
    rw [sorted_again] at o2
    have q := same_ok (c1 := c2) (c2 := cy) o2.rd (hy.fr (f1.trans' f2) fun _ _ _ h => h) (by rw [hyl]; omega)
    rw [hyl] at q
    refine q.use ?_
    rintro v w3 ⟨rfl, f3⟩
    exact ⟨_, rfl, by rw [decide_eq_true rfl], f.trans' (f1.trans' (f2.trans' f3))⟩
theorem rws_val {xs : List It} {i : Nat} (hi : i < xs.length) (v : Int) : (rws it2 xs).set (i * 2 + 1) (.int .i64 v) = rws it2 (xs.set i (xs[i].1, v)) := by
  rw [rws_set2 it2_len (a' := (xs[i].1, v)) rfl]
  congr 1
  have h := rws_get it2_len (List.getElem?_eq_getElem hi) (j := 0) (by decide)
  apply List.ext_getElem?
  intro j
  by_cases e : i * 2 = j
  · subst e
    rw [List.getElem?_set_self (by rw [rws_length it2_len]; omega)]
    exact h.trans rfl
  · rw [List.getElem?_set_ne e]
theorem heapStays_ok {A : Option Addr} {l c : Nat} {xs : List It} (h : Rd W (fun k => k < W.heap.size) A (rws it2 xs)) (hl : xs.length = l) (hc : l ≤ c) : Ret Try.prog 7 [.slice A l c] W (Done W) := by
  apply S7_calls
  obtain ⟨n, h1, h2, h3, h4, h5⟩ := cut_ok (m := 500) (c := c) h hl
  unfold S7
  rw [show ((500 : Nat) : Int) = 500 from rfl] at h1
  rw [h1]
  have e1 : Int.toNat (n : Int) - 0 = n := by simp
  rw [e1, slAddr_zero, Nat.sub_zero]
  refine (shown_ok _).use ?_
  rintro v w1 ⟨rfl, f1⟩
  generalize xs.take n = ys at h4 h5
  subst h4
  refine ⟨_, rfl, by omega, by omega, ?_⟩
  have a2 : Fr none1 w1 (w1.alloc (.cells ⟨[]⟩ 32)) := Fr.alloc _ _
  have lit : Own (w1.alloc (.cells ⟨[]⟩ 32)) 32 2 (bw W.heap.size (w1.alloc (.cells ⟨[]⟩ 32))) (some ⟨w1.heap.size, 0, none⟩) 0 0 [] :=
    (Own.lit w1 32 2 0 [] rfl (Nat.zero_le _)).mono fun k hk h => ⟨by have := f1.size; omega, hk⟩
  have f2 := f1.trans' a2
  have r2 := h5.fr f2 (fun _ _ _ h => h)
  obtain ⟨A3, c3, w3, r3, o3, f3, g3⟩ := appB (ty := 27) (m := ys.length) (c2 := c) E27 lit f2.size (rws_length it2_len ys) r2 (rws_cells it2_one ys) (by omega) (by simp only [maxLen]; omega)
  have gW := f2.bel0.trans' g3
  rw [Nat.zero_add, List.nil_append] at o3
  rw [Nat.zero_add] at r3
  refine ⟨A3, _, c3, w3, r3, ?_⟩
  refine ⟨fun s w' => ∃ (n : Nat) (zs : List It), s.1 = (n : Int) ∧ n ≤ ys.length ∧ zs.length = ys.length ∧ NumI n zs ∧ Own w' 32 2 (bw W.heap.size w') A3 ys.length c3 (rws it2 zs) ∧ Bel W.heap.size W w', fun s _ => ys.length - s.1.toNat, ⟨0, ys, rfl, Nat.zero_le _, rfl, fun i z hi => by omega, o3, gW⟩, ?_⟩
  rintro J ⟨i, ⟨⟩⟩ w4 ⟨n, zs, hi, hn, hzl, hnum, o4, g4⟩
  dsimp only at hi ⊢
  subst hi
  refine cD (fun hlt => ?_) (fun hlt => ?_)
  · have hn' : n < zs.length := by omega
    obtain ⟨gb, rfl, _, _⟩ := o4.form (by omega)
    have lz := rws_length it2_len zs
    obtain ⟨s1, s2⟩ := o4.store (j := n * 2 + 1) (by omega)
    refine ⟨_, rfl, by omega, by omega, ?_⟩
    rw [Int.toNat_natCast, add_g, add_go]
    refine ⟨s1, s2, ?_⟩
    have o5 := o4.set (n * 2 + 1) (.int .i64 (n : Int))
    rw [rws_val hn'] at o5
    have hs : Fr (fun k => k = gb) w4 (w4.setCell ⟨gb, n * 2 + 1, none⟩ (.int .i64 (n : Int))) := Fr.setCell (F := fun k => k = gb) w4 rfl _
    rw [IntWalk.i64_in ((n : Int) + 1) (by omega)]
    refine ⟨⟨n + 1, _, rfl, by omega, by rw [List.length_set]; exact hzl, fun i z hi hz => ?_, o5.mono fun k hk h => ⟨h.1, hk⟩, g4.trans' (hs.bel fun k e => by subst e; exact (o4.has _ rfl).1.1)⟩, by dsimp only; omega⟩
    rw [List.getElem?_set] at hz
    by_cases e : n = i
    · subst e
      rw [if_pos rfl, if_pos hn'] at hz
      cases hz; rfl
    · rw [if_neg e] at hz
      exact hnum i z (by omega) hz
  · have : n = ys.length := by omega
    subst this
    rw [← hzl] at hnum o4
    have f4 := g4.top
    refine (fun hh => ?_ : _ → _) trivial
    unfold S7_k2
    rw [← hzl]
    refine (sort_ok o4.rd (by omega)).use ?_
    rintro v w5 ⟨A5, c5, rfl, o5, f5⟩
    refine ⟨_, _, _, rfl, cF (by simp) ?_⟩
    exact stays_cmp hnum (o4.rd.fr f5 fun _ _ _ h => h) o5.rd (f4.trans' f5) (by omega)
end
end Go.Proofs
