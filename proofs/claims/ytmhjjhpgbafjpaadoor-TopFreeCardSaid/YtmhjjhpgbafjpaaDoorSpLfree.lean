/- Ways through time: a way, in plain Lean; a row turned round. -/
import Derived.Test.YtmhjjhpgbafjpaaDoorSpKfree
set_option linter.unusedVariables false
set_option maxRecDepth 100000
namespace Go.Proofs
open Go Go.Eng
theorem Est : ElT Tryd.prog 34 38 2 16 := elT_of (by kernel_rfl)
theorem soon_or : ∀ (l : List Sy) (a : Int), l.foldl soonS a = a ∨ ∃ y ∈ l, l.foldl soonS a = y.fr
  | [], a => .inl rfl
  | x :: l, a => by
    rw [List.foldl_cons]
    rcases soon_or l (soonS a x) with h | ⟨y, h1, h2⟩
    · rw [h]
      unfold soonS
      split
      · exact .inr ⟨x, by simp, rfl⟩
      · exact .inl rfl
    · exact .inr ⟨y, by simp [h1], h2⟩
theorem soon_get {l : List Sy} (h : ¬ soonF l < 0) : ∃ y ∈ l, soonF l = y.fr := by
  rcases soon_or l (-1) with e | e
  · exact absurd (show soonF l < 0 by unfold soonF; rw [e]; decide) h
  · exact e
/-- The way back, so many moments. -/
def wayF (f : Fl) (from_ : Int) (g : Int → List Sy) : Nat → Int → Int → List (Int × Int)
  | 0, _, _ => []
  | k + 1, at_, now => if at_ = from_ then [] else (at_, now) :: wayF f from_ g k (cameF f from_ g at_ now) (now - 1)
theorem way_from (f : Fl) (from_ : Int) (g : Int → List Sy) (k : Nat) (now : Int) : wayF f from_ g k from_ now = [] := by
  cases k with
  | zero => rfl
  | succ k => exact if_pos rfl
/-- A place and a moment that one can be at. -/
def Can (f : Fl) (from_ start : Int) (g : Int → List Sy) (at_ now : Int) : Prop := (0 ≤ at_ ∧ at_ < (f.C.size : Int)) ∧ start ≤ now ∧ (now ≤ start + 40 ∧ start ≤ 1000) ∧ (at_ = from_ ∨ ∃ y ∈ g at_, y.fr ≤ now)
theorem Can.back {f : Fl} {from_ start : Int} {g : Int → List Sy} {at_ now : Int} (hV : ∃ st, RInv f from_ start st ∧ st.g = g) (h : Can f from_ start g at_ now) (hne : at_ ≠ from_) : start + 1 ≤ now ∧ Can f from_ start g (cameF f from_ g at_ now) (now - 1) := by
  obtain ⟨st, V, rfl⟩ := hV
  obtain ⟨h1, h2, h3, h4⟩ := h
  obtain ⟨y, hy, hyn⟩ := h4.resolve_left hne
  obtain ⟨e, hya⟩ := V.g _ y hy
  obtain ⟨x, hx, hn, hl, hxf⟩ := (V.pred y hya).resolve_left fun h => hne (e ▸ h.1)
  obtain ⟨_, hxa⟩ := V.g _ x hx
  have hxr := V.all x hxa
  rw [e] at hn
  have hxc : cmB f from_ st.g now x.c = true := by
    unfold cmB
    have h5 : (st.g x.c).any (cn1 (now - 1)) = true := List.any_eq_true.2 ⟨x, hx, by unfold cn1; rw [decide_eq_true]; omega⟩
    rw [h5]
    rcases hl with h | h
    · rw [decide_eq_true h]; simp
    · rw [h]; rfl
  have hf : ((nearF f at_).find? (cmB f from_ st.g now)).isSome := List.find?_isSome.2 ⟨x.c, near_sym hn, hxc⟩
  obtain ⟨c, hc⟩ := Option.isSome_iff_exists.1 hf
  have ec : cameF f from_ st.g at_ now = c := by unfold cameF; rw [hc]; rfl
  have hcm := List.find?_some hc
  have hcn := (near_bound (List.mem_of_find?_eq_some hc)).2.2.1
  rw [ec]
  refine ⟨by omega, hcn, by omega, ⟨by omega, h3.2⟩, ?_⟩
  unfold cmB at hcm
  rw [Bool.and_eq_true] at hcm
  obtain ⟨z, hz, hz2⟩ := List.any_eq_true.1 hcm.2
  unfold cn1 at hz2
  have := of_decide_eq_true hz2
  exact .inr ⟨z, hz, by omega⟩
theorem way_in {f : Fl} {from_ start : Int} {g : Int → List Sy} (hV : ∃ st, RInv f from_ start st ∧ st.g = g) : ∀ (k : Nat) (at_ now : Int), Can f from_ start g at_ now → (wayF f from_ g k at_ now).length ≤ k ∧ (∀ x ∈ wayF f from_ g k at_ now, (0 ≤ x.1 ∧ x.1 < (f.C.size : Int)) ∧ start + 1 ≤ x.2 ∧ x.2 ≤ now) ∧ (wayF f from_ g k at_ now).Pairwise fun a b => b.2 < a.2
  | 0, at_, now, _ => ⟨Nat.le_refl _, by simp [wayF], List.Pairwise.nil⟩
  | k + 1, at_, now, h => by
    unfold wayF
    split
    · exact ⟨by simp, by simp, List.Pairwise.nil⟩
    · rename_i hne
      obtain ⟨h1, h2⟩ := h.back hV hne
      obtain ⟨q1, q2, q3⟩ := way_in hV k _ _ h2
      refine ⟨by simp only [List.length_cons]; omega, fun x hx => ?_, List.pairwise_cons.2 ⟨fun x hx => ?_, q3⟩⟩
      · rcases List.mem_cons.1 hx with rfl | hx
        · exact ⟨h.1, h1, Int.le_refl _⟩
        · have := q2 x hx
          exact ⟨this.1, this.2.1, by omega⟩
      · have := q2 x hx
        dsimp only
        omega
/-- What a plan is, and its errno. -/
def planV (f : Fl) (from_ start to : Int) : List (Int × Int) × Int :=
  if ofB f from_ start = false ∨ ¬ (0 ≤ to ∧ to < (f.C.size : Int)) ∨ kdF f.C to.toNat = 1 then ([], 1) else
  if to = from_ then ([], 0) else
  if soonF (runF f from_ start to) < 0 then ([], 2) else
  ((wayF f from_ (runF f from_ start) (soonF (runF f from_ start to) - start).toNat to (soonF (runF f from_ start to))).reverse, 0)
theorem plan_can {f : Fl} {from_ start to : Int} (hst : start ≤ 1000) (hf : 0 ≤ from_ ∧ from_ < (f.C.size : Int)) (ht : 0 ≤ to ∧ to < (f.C.size : Int)) (hs : ¬ soonF (runF f from_ start to) < 0) : Can f from_ start (runF f from_ start) to (soonF (runF f from_ start to)) := by
  obtain ⟨y, hy, e⟩ := soon_get hs
  obtain ⟨st, V, eg⟩ := runF_inv (start := start) hf
  rw [e]
  rw [← eg] at hy ⊢
  have := V.all y (V.g _ y hy).2
  exact ⟨ht, this.2.2.1, ⟨this.2.2.2, hst⟩, .inr ⟨y, hy, Int.le_refl _⟩⟩
theorem plan_in (f : Fl) (from_ start to : Int) (hst : start ≤ 1000) : (planV f from_ start to).1.length ≤ 40 ∧ (∀ x ∈ (planV f from_ start to).1, (0 ≤ x.1 ∧ x.1 < (f.C.size : Int)) ∧ start + 1 ≤ x.2 ∧ x.2 ≤ start + 40) ∧ (planV f from_ start to).1.Pairwise fun a b => a.2 < b.2 := by
  unfold planV
  split
  · simp
  · rename_i h1
    split
    · simp
    · split
      · simp
      · rename_i h3
        have ho : ofB f from_ start = true := by cases h : ofB f from_ start with
          | true => rfl
          | false => exact absurd (.inl h) h1
        have hf : 0 ≤ from_ ∧ from_ < (f.C.size : Int) := by
          unfold ofB at ho
          simp only [Bool.and_eq_true, decide_eq_true_eq] at ho
          exact ⟨ho.1.1, ho.1.2.1⟩
        have ht : 0 ≤ to ∧ to < (f.C.size : Int) := Classical.byContradiction fun h => h1 (.inr (.inl h))
        have hc := plan_can hst hf ht h3
        obtain ⟨q1, q2, q3⟩ := way_in (runF_inv (start := start) hf) (soonF (runF f from_ start to) - start).toNat to _ hc
        have := hc.2.2.1.1
        refine ⟨by rw [List.length_reverse]; omega, fun x hx => ?_, List.pairwise_reverse.2 q3⟩
        have := q2 x (List.mem_reverse.1 hx)
        exact ⟨this.1, this.2.1, by omega⟩
section
variable {w : World} {ok : Nat → Prop} {A : Option Addr} {c : Nat} {xs : List (Int × Int)}
theorem rev_ok (h : Own w 38 2 ok A xs.length c (rws it2 xs)) (hl : xs.length ≤ 100000) : Ret Tryd.prog 21 [.slice A xs.length c] w fun v w' => v = .tuple ⟨[]⟩ ∧ Own w' 38 2 ok A xs.length c (rws it2 xs.reverse) ∧ Fr (ownAt A) w w' := by
  apply S21_calls
  rw [S21, IntWalk.i64_in _ (by omega)]
  refine ⟨fun s w' => ∃ (i : Nat) (ys : List (Int × Int)), s = ((i : Int), (xs.length : Int) - 1 - (i : Int), ()) ∧ 2 * i ≤ xs.length + 1 ∧ ys.length = xs.length ∧ (∀ k, k < xs.length → ys[k]? = if k < i ∨ xs.length ≤ k + i then xs[xs.length - 1 - k]? else xs[k]?) ∧ Own w' 38 2 ok A xs.length c (rws it2 ys) ∧ Fr (ownAt A) w w', fun s _ => xs.length - s.1.toNat, ⟨0, xs, by simp, by omega, rfl, fun k hk => by rw [if_neg (by omega)], h, Fr.refl _ _⟩, ?_⟩
  rintro J s w1 ⟨i, ys, rfl, hi, hyl, hys, o1, f1⟩
  dsimp only
  refine cD (fun hlt => ?_) (fun hlt => ?_)
  · have d : Fr none1 w1 w1.drew := Fr.drew w1
    have o2 := o1.fr d fun _ _ _ h => h
    have f2 : Fr (ownAt A) w w1.drew := f1.trans' (d.mono fun _ _ h => h.elim)
    unfold S21_k1
    generalize w1.drew = w2 at o2 f2 ⊢
    have ej : (xs.length : Int) - 1 - (i : Int) = ((xs.length - 1 - i : Nat) : Int) := by omega
    rw [ej] at hlt ⊢
    generalize hJ : xs.length - 1 - i = j at hlt ⊢
    have hi' : i < ys.length := by omega
    have hj' : j < ys.length := by omega
    have hx : ys[i]? = some ys[i] := List.getElem?_eq_getElem hi'
    have hy : ys[j]? = some ys[j] := List.getElem?_eq_getElem hj'
    generalize ys[i] = x at hx
    generalize ys[j] = y at hy
    obtain ⟨gb, rfl, hgb, ci⟩ := o2.elem it2_len hx (by decide)
    obtain ⟨gb', e, _, cj⟩ := o2.elem it2_len hy (by decide)
    cases e
    have i0 := ci 0 _ (by decide) rfl
    have i1 := ci 1 _ (by decide) rfl
    have j0 := cj 0 _ (by decide) rfl
    have j1 := cj 1 _ (by decide) rfl
    rw [add_zero'] at i0 j0
    obtain ⟨p1, p2, p3, p4, o3, f3⟩ := o2.set2 it2_len hi' (a' := y) rfl
    obtain ⟨r1, r2, r3, r4, o4, f4⟩ := o3.set2 it2_len (i := j) (by simpa using hj') (a' := x) rfl
    refine ⟨_, rfl, by omega, by omega, y.1, by rw [Int.toNat_natCast]; exact j0, y.2, by rw [Int.toNat_natCast]; exact j1, _, rfl, by omega, by omega, x.1, by rw [Int.toNat_natCast]; exact i0, x.2, by rw [Int.toNat_natCast]; exact i1, ?_⟩
    rw [Int.toNat_natCast, Int.toNat_natCast]
    refine ⟨_, rfl, by omega, by omega, p1, p2, p3, p4, _, rfl, by omega, by omega, r1, r2, r3, r4, ?_⟩
    unfold S21_k2
    rw [IntWalk.i64_in _ (by omega), IntWalk.i64_in _ (by omega)]
    refine ⟨⟨i + 1, (ys.set i y).set j x, by congr 2; omega, by omega, by simp [hyl], fun k hk => ?_, o4, f2.trans' ((f3.mono fun k _ e => ⟨_, rfl, e.symm⟩).trans' (f4.mono fun k _ e => ⟨_, rfl, e.symm⟩))⟩, by dsimp only; omega⟩
    by_cases e1 : k = j
    · subst e1
      rw [List.getElem?_set_self (by simpa using hj'), if_pos (by omega)]
      have := hys i (by omega)
      rw [hx, if_neg (by omega)] at this
      rw [show xs.length - 1 - k = i by omega]
      exact this
    · rw [List.getElem?_set_ne (Ne.symm e1)]
      by_cases e2 : k = i
      · subst e2
        rw [List.getElem?_set_self hi', if_pos (by omega)]
        have := hys j (by omega)
        rw [hy, if_neg (by omega)] at this
        rw [hJ]
        exact this
      · rw [List.getElem?_set_ne (Ne.symm e2), hys k hk]
        by_cases e3 : k < i ∨ xs.length ≤ k + i
        · rw [if_pos e3, if_pos (by omega)]
        · rw [if_neg e3, if_neg (by omega)]
  · have e : ys = xs.reverse := by
      refine List.ext_getElem? fun k => ?_
      by_cases hk : k < xs.length
      · rw [hys k hk, List.getElem?_reverse hk]
        by_cases e3 : k < i ∨ xs.length ≤ k + i
        · rw [if_pos e3]
        · rw [if_neg e3, show xs.length - 1 - k = k by omega]
      · rw [List.getElem?_eq_none (by omega), List.getElem?_eq_none (by rw [List.length_reverse]; omega)]
    subst e
    exact ⟨rfl, o1, f1⟩
end
end Go.Proofs
