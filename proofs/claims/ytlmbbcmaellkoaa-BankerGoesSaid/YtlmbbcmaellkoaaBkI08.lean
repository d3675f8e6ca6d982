/- Claims: the reference's May; BankerOrders, BankerMays. -/
import Derived.Test.YtlmbbcmaellkoaaBkH08
set_option linter.unusedVariables false
namespace Go.Proofs
open Go Go.Eng
/-- What was there, and what are rows of ints. -/
def okT (B : Nat) (w : World) : Nat → Prop := fun k => k < B ∨ hasTy w [3] k
theorem Rd.keepT {F : Nat → Prop} {w w' : World} {B : Nat} {A : Option Addr} {cs : List Value} (h : Rd w (okT B w) A cs) (f : Fr F w w') (hF : ∀ k, k < w.heap.size → F k → B ≤ k ∧ ¬ hasTy w [3] k) : Rd w' (okT B w') A cs := by
  have h1 := h.fr f fun k hk ho hf => by
    obtain ⟨a, b⟩ := hF k hk hf
    rcases ho with ho | ho
    · omega
    · exact b ho
  refine h1.mono fun k _ ho => ?_
  rcases ho with ho | ho
  · exact .inl ho
  · right
    have hk : k < w.heap.size := by
      obtain ⟨cur, t, h2, _⟩ := ho
      exact (Array.getElem?_eq_some_iff.1 h2).1
    exact (f.hasTy hk fun hf => (hF k hk hf).2 ho).2 ho
theorem ClR.keepT {F : Nat → Prop} {w w' : World} {B : Nat} {x : Cl} (h : ClR w (okT B w) x) (f : Fr F w w') (hF : ∀ k, k < w.heap.size → F k → B ≤ k ∧ ¬ hasTy w [3] k) : ClR w' (okT B w') x :=
  ⟨Rd.keepT h.1 f hF, Rd.keepT h.2.1 f hF, h.2.2⟩
theorem clr_low {w : World} {ok : Nat → Prop} {x : Cl} (h : ClR w ok x) : ClR w (okT w.heap.size w) x := ⟨h.1.mono fun k hk _ => .inl hk, h.2.1.mono fun k hk _ => .inl hk, h.2.2⟩
theorem own_notint {w : World} {A : Option Addr} {l c : Nat} {ok : Nat → Prop} {vs : List Value} (h : Own w 28 2 ok A l c vs) {B : Nat} (hB : ∀ k, ok k → B ≤ k) : ∀ k, k < w.heap.size → ownAt A k → B ≤ k ∧ ¬ hasTy w [3] k := by
  rintro k hk ⟨a, ha, rfl⟩
  exact ⟨hB _ (h.has a ha).1, h.notTy (by decide) a ha⟩
section
variable {w : World} {ok : Nat → Prop} {A : Option Addr} {xs : List Cl}
def gvs (xs : List Cl) (b : Nat) (z : Int) (i : Nat) : List Cm := (cms (xs.take i)).mapIdx fun k c => if k = b then (z :: c.1, c.2) else c
theorem gvs_succ {b : Nat} {z : Int} {i : Nat} {x : Cl} (hx : xs[i]? = some x) : gvs xs b z (i + 1) = gvs xs b z i ++ [if i = b then (z :: x.h, x.n) else (x.h, x.n)] := by
  have hi := (List.getElem?_eq_some_iff.1 hx).1
  unfold gvs
  rw [cms_take hx, List.mapIdx_append, cms_len, List.length_take, Nat.min_eq_left (by omega)]
  simp
theorem gvs_all {b : Nat} {z : Int} (hb : b < xs.length) : gvs xs b z xs.length = give (cms xs) b z := by
  unfold gvs give
  rw [List.take_length]
  apply List.ext_getElem?
  intro k
  rw [List.getElem?_mapIdx, List.getElem?_set]
  by_cases e : b = k
  · subst e
    have hk : b < (cms xs).length := by rw [cms_len]; exact hb
    simp [hk, Go.Eng.g]
  · rw [if_neg e]
    cases (cms xs)[k]? with
    | none => rfl
    | some c =>
      simp
      exact fun h => absurd h.symm e
theorem rMay_ok (h : Cls w ok A xs) (hsm : ∀ x ∈ xs, x.h.length ≤ 999) (c : Nat) (who z : Int) : Ret Try.prog 21 [.slice A xs.length c, .int .i64 who, .int .i64 z] w fun v w' => v = .bool (mayB (cms xs) who z) ∧ Fr none1 w w' := by
  have hlx := h.2.2
  have hcl := cms_len xs
  apply S21_calls
  refine (rRight_ok h c).use ?_
  rintro v w1 ⟨rfl, f1⟩
  refine ⟨_, rfl, ?_⟩
  have bad : ∀ {u}, Fr none1 w u → ¬ (0 ≤ who ∧ who < ((cms xs).length : Int) ∧ 0 ≤ z ∧ z < 26) → Value.bool false = .bool (mayB (cms xs) who z) ∧ Fr none1 w u := by
    intro u fu hb
    unfold mayB
    rw [decide_eq_false hb, Bool.false_and, Bool.and_false]
    exact ⟨rfl, fu⟩
  cases hr : rightB (cms xs) with
  | false =>
    refine cT rfl (cT rfl ⟨?_, f1⟩)
    unfold mayB; rw [hr]; rfl
  | true =>
  refine cF rfl ?_
  refine cD (fun e => cT rfl (bad f1 (by omega))) (fun e1 => cD (fun e => cT rfl (bad f1 (by omega))) (fun e2 => cD (fun e => cT rfl (bad f1 (by omega))) (fun e3 => cD (fun e => bad f1 (by omega)) (fun e4 => ?_))))
  have hg : 0 ≤ who ∧ who < ((cms xs).length : Int) ∧ 0 ≤ z ∧ z < 26 := by omega
  obtain ⟨b, rfl⟩ : ∃ b : Nat, who = (b : Int) := ⟨who.toNat, by omega⟩
  have hbl : b < xs.length := by omega
  have hB := f1.size
  refine ⟨fun s w' => ∃ (i : Nat) (ys : List Cl), s.2.1 = (i : Int) ∧ i ≤ xs.length ∧ s.1.2.1 = ys.length ∧ ys.length = i ∧ (∀ j y, j < i → xs[j]? = some y → z ∉ y.h) ∧ cms ys = gvs xs b z i ∧ Own w' 28 2 (from1 w.heap.size) s.1.1 ys.length s.1.2.2 (rws clc ys) ∧ (∀ y ∈ ys, ClR w' (okT w.heap.size w') y) ∧ Fr none1 w w',
    fun s _ => xs.length - s.2.1.toNat, ⟨0, [], rfl, Nat.zero_le _, rfl, rfl, fun j y hj => absurd hj (Nat.not_lt_zero j), rfl, Own.nil _ _ _ _, by simp, f1⟩, ?_⟩
  rintro J ⟨⟨Ao, lo, co⟩, i', ⟨⟩⟩ w2 ⟨i, ys, hi, hil, hlo, hyl, hno, hys, o2, hR, f2⟩
  dsimp only at hi hlo o2 ⊢
  subst hi hlo
  refine cD (fun hlt => ?_) (fun hlt => ?_)
  · have hlt' : i < xs.length := by have : (i : Int) < (xs.length : Int) := hlt; omega
    have hx : xs[i]? = some xs[i] := List.getElem?_eq_getElem hlt'
    generalize xs[i] = x at hx
    obtain ⟨t, ht, _, c0, c1, hr1, hr2, hl1, hl2, hl3, hl4⟩ := cl_at (h.fr0 f2) hx
    have hsx := hsm x (List.mem_of_getElem? hx)
    refine ⟨t, ht, by omega, by omega, _, _, _, c0, ?_⟩
    refine (in_ok (c := x.hc) hr1 (by omega) z).use ?_
    rintro v w2 ⟨rfl, rfl⟩
    refine ⟨_, rfl, cB (fun e => ?_) (fun e => ?_)⟩
    · refine ⟨?_, f2⟩
      have : (cms xs).any (fun c => c.1.contains z) = true := by
        rw [List.any_eq_true]
        exact ⟨(x.h, x.n), List.mem_map.2 ⟨x, List.mem_of_getElem? hx, rfl⟩, e⟩
      unfold mayB; rw [this]; simp
    have hzn : z ∉ x.h := by simpa using e
    refine ⟨t, ht, by omega, by omega, _, _, _, c0, _, _, _, c1, ?_⟩
    obtain ⟨p1, p2, p3, p4, b3, f3⟩ := cp2 w2 28 (.slice none 0 0) (.slice none 0 0) (.slice x.hA x.h.length x.hc) (.slice x.nA x.n.length x.nc)
    refine ⟨p1, p2, p3, p4, ?_⟩
    have hpl := b3.lt
    generalize hw3 : World.setCell _ _ _ = w3 at b3 f3 hpl ⊢
    clear hw3 p1 p2 p3 p4
    have hp2 : w.heap.size ≤ w2.heap.size := f2.size
    have o3 := o2.tight (ts := [28]) (by simp)
    have o3 := (o2.mono (ok' := fun k => w.heap.size ≤ k ∧ k ≠ w2.heap.size) fun k hk ho => ⟨ho, by omega⟩).fr f3 fun _ _ _ h => h
    have hR3 : ∀ y ∈ ys, ClR w3 (okT w.heap.size w3) y := fun y hy => (hR y hy).keepT f3 fun k hk h => h.elim
    have xR3 : ClR w3 (okT w.heap.size w3) x := ClR.keepT ((h.2.1 x (List.mem_of_getElem? hx)) |> clr_low) (f2.trans' f3) fun k hk h => h.elim
    generalize w2.heap.size = p at b3 hpl o3 hp2 ⊢
    have f03 := f2.trans' f3
    have hgs := gvs_succ (b := b) (z := z) hx
    -- the claim is laid behind the others
    have k5 : ∀ (u : World) (y : Cl), Blk u p 28 (clc y) → Own u 28 2 (fun k => w.heap.size ≤ k ∧ k ≠ p) Ao ys.length co (rws clc ys) → (∀ y ∈ ys, ClR u (okT w.heap.size u) y) → ClR u (okT w.heap.size u) y → (y.h, y.n) = (if i = b then (z :: x.h, x.n) else (x.h, x.n)) → Fr none1 w u →
        S21_k5 A xs.length c (b : Int) z Ao ys.length co (i : Int) ⟨p, 0, none⟩ u (fun v w' => v = .bool (mayB (cms xs) (b : Int) z) ∧ Fr none1 w w')
        (fun s' w'' => (∃ (i : Nat) (ys : List Cl), s'.2.1 = (i : Int) ∧ i ≤ xs.length ∧ s'.1.2.1 = ys.length ∧ ys.length = i ∧ (∀ j y, j < i → xs[j]? = some y → z ∉ y.h) ∧ cms ys = gvs xs b z i ∧ Own w'' 28 2 (from1 w.heap.size) s'.1.1 ys.length s'.1.2.2 (rws clc ys) ∧ (∀ y ∈ ys, ClR w'' (okT w.heap.size w'') y) ∧ Fr none1 w w'') ∧ xs.length - s'.2.1.toNat < xs.length - (i : Int).toNat) := by
      intro u y by' ou hRu hRy hy fu
      have fl : Fr none1 u (u.alloc (.cells ⟨clc y⟩ 28)) := Fr.alloc _ _
      have lit := Own.lit u 28 2 1 (clc y) rfl (by simp [maxLen])
      have ou' := ou.fr fl fun _ _ _ h => h
      obtain ⟨A', c', w', r', o', f', _⟩ := run_append (ty := 22) (m := 1) (c2 := 1) Ecl ou' rfl lit.rd (clc_one y) (by omega) (by simp only [maxLen]; omega)
      have hsu : w.heap.size ≤ u.heap.size := fu.size
      have hF : ∀ k, k < (u.alloc (.cells ⟨clc y⟩ 28)).heap.size → ownAt Ao k → w.heap.size ≤ k ∧ ¬ hasTy (u.alloc (.cells ⟨clc y⟩ 28)) [3] k := own_notint ou' fun k hk => hk.1
      refine ⟨_, _, _, (by'.cell 0).trans rfl, _, _, _, by rw [add_g]; exact (by'.cell 1).trans rfl, A', _, c', w', r', ?_⟩
      rw [nextI (by omega)]
      refine ⟨⟨i + 1, ys ++ [y], rfl, by omega, by simp, by simp [hyl], fun j y' hj hy' => ?_, ?_, ?_, fun y' hy' => ?_, ?_⟩, by dsimp only; omega⟩
      · by_cases ej : j = i
        · subst ej; rw [hx] at hy'; cases hy'; exact hzn
        · exact hno j y' (by omega) hy'
      · rw [cms_append, hys, hgs, ← hy]; rfl
      · rw [List.length_append, rws_append, rws_one]
        refine o'.mono fun k _ hk => ?_
        rcases hk with hk | hk
        · exact hk.1
        · have := fl.size
          show w.heap.size ≤ k
          omega
      · have hR1 : ClR (u.alloc (.cells ⟨clc y⟩ 28)) (okT w.heap.size (u.alloc (.cells ⟨clc y⟩ 28))) y' := by
          rcases List.mem_append.1 hy' with hy' | hy'
          · exact (hRu y' hy').keepT fl fun k hk h => h.elim
          · rw [List.mem_singleton] at hy'; subst hy'; exact hRy.keepT fl fun k hk h => h.elim
        exact hR1.keepT f' hF
      · exact (fu.trans' fl).trans f' fun k hk ho => by
          have := (hF k (by have := fl.size; omega) ho).1
          omega
    refine cD (fun eb => ?_) (fun eb => ?_)
    · have eb' : i = b := by omega
      have fl : Fr none1 w3 (w3.alloc (.cells ⟨[.int .i64 z]⟩ 3)) := Fr.alloc _ _
      have lit := Own.lit w3 3 1 1 [.int .i64 z] rfl (by simp [maxLen])
      have b4 := b3.fr fl fun h => h
      have hr4 := hr1.fr (f3.trans' fl) fun _ _ _ h => h
      obtain ⟨A5, c5, w5, r5, o5, f5, _⟩ := run_append (ty := 26) (m := x.h.length) (c2 := x.hc) Eint lit (by rw [Go.Eng.ints_length, Nat.mul_one]) hr4 (ints_one _) (by omega) (by simp only [maxLen]; omega)
      have hs3 : w.heap.size ≤ w3.heap.size := f03.size
      have f35 : Fr none1 w3 w5 := fl.trans f5 fun k hk ⟨a, ha, e⟩ => by cases ha; simp only at e; omega
      have b5 := b3.fr f35 fun h => h
      have b6 := b5.set 0 (.slice A5 (1 + x.h.length) c5)
      have f6 : Fr (fun k => k = p) w5 (w5.setCell ⟨p, 0, none⟩ (.slice A5 (1 + x.h.length) c5)) := Fr.setCell (F := fun k => k = p) w5 rfl _
      have hp5 : ∀ k, k < w5.heap.size → k = p → w.heap.size ≤ k ∧ ¬ hasTy w5 [3] k := fun k hk e => by
        subst e; exact ⟨hp2, b5.notTy (by decide)⟩
      refine ⟨_, _, _, (b4.cell 0).trans rfl, A5, _, c5, w5, r5, b5.has 0 (by simp), b5.free 0, ?_⟩
      have e6 : [Value.int .i64 z] ++ ints x.h = ints (z :: x.h) := rfl
      rw [e6] at o5
      have hle5 := o5.le
      have y6 : ClR w5 (okT w.heap.size w5) ⟨A5, c5, z :: x.h, x.nA, x.nc, x.n⟩ := by
        have x5 := xR3.keepT f35 fun k hk h => h.elim
        refine ⟨?_, x5.2.1, by simp; omega, hl2, ?_, hl4⟩
        · have ot := o5.tight (ts := [3]) (by simp)
          exact ot.rd.mono fun k _ hk => .inr hk.2
        · simp only [List.length_cons]; omega
      refine k5 _ ⟨A5, c5, z :: x.h, x.nA, x.nc, x.n⟩ ?_ ((o3.fr f35 fun _ _ _ h => h).fr f6 fun k _ hk e => hk.2 e) (fun y hy => ((hR3 y hy).keepT f35 fun k hk h => h.elim).keepT f6 hp5) (y6.keepT f6 hp5) (by rw [if_pos eb']) ?_
      · have : clc ⟨A5, c5, z :: x.h, x.nA, x.nc, x.n⟩ = [.slice A5 (1 + x.h.length) c5, .slice x.nA x.n.length x.nc] := by
          unfold clc; simp only [List.length_cons, Nat.add_comm]
        rw [this]
        exact b6
      · exact (f03.trans' f35).trans f6 fun k hk e => by have e : k = p := e; omega
    · have eb' : ¬ i = b := by omega
      exact k5 w3 x b3 o3 hR3 xR3 (by rw [if_neg eb']) f03
  · have hge : i = xs.length := by have : ¬ (i : Int) < (xs.length : Int) := hlt; omega
    subst hge
    rw [gvs_all hbl] at hys
    have hany : (cms xs).any (fun c => c.1.contains z) = false := by
      rw [List.any_eq_false]
      intro c hc
      obtain ⟨y, hy, rfl⟩ := List.mem_map.1 hc
      obtain ⟨j, hj⟩ := List.getElem?_of_mem hy
      have := hno j y (List.getElem?_eq_some_iff.1 hj).1 hj
      simpa [clm] using this
    have hcls : Cls w2 (fun _ => True) Ao ys := ⟨o2.rd.mono fun _ _ _ => trivial, fun y hy => ⟨(hR y hy).1.mono fun _ _ _ => trivial, (hR y hy).2.1.mono fun _ _ _ => trivial, (hR y hy).2.2⟩, by omega⟩
    refine (rOrder_ok hcls co).use ?_
    rintro v w3 ⟨hv, f3⟩
    have hrt := (rightB_iff.1 hr)
    have hrg : rightB (give (cms xs) b z) = true := by
      rw [rightB_iff]
      refine ⟨by unfold give; rw [List.length_set]; exact hrt.1, okc_give hrt.2.1 (by omega) ⟨by omega, by omega⟩, ?_⟩
      unfold give
      rw [List.pairwise_iff_getElem]
      intro i j hi hj hij
      have hi' : i < (cms xs).length := by rw [List.length_set] at hi; exact hi
      have hj' : j < (cms xs).length := by rw [List.length_set] at hj; exact hj
      have hp := List.pairwise_iff_getElem.1 hrt.2.2 i j hi' hj' hij
      have nz : ∀ k (hk : k < (cms xs).length), z ∉ ((cms xs)[k]).1 := fun k hk => by
        rw [List.any_eq_false] at hany
        have := hany _ (List.getElem_mem hk)
        simpa using this
      have egb : ∀ (hb : b < (cms xs).length), (g (cms xs) b) = (cms xs)[b] := fun hb => by unfold Go.Eng.g; rw [List.getElem?_eq_getElem hb]; rfl
      rw [List.getElem_set, List.getElem_set]
      by_cases e1 : b = i
      · subst e1
        rw [if_pos rfl, if_neg (by omega), disj_comm]
        rw [disj_comm] at hp
        rw [disj_iff] at hp ⊢
        intro y hy
        rcases List.mem_cons.1 hy with rfl | hy
        · exact nz j hj'
        · rw [egb hi'] at hy; exact hp y hy
      · by_cases e2 : b = j
        · subst e2
          rw [if_pos rfl, if_neg (by omega)]
          rw [disj_iff] at hp ⊢
          intro y hy
          rcases List.mem_cons.1 hy with rfl | hy
          · exact nz i hi'
          · rw [egb hj'] at hy; exact hp y hy
        · rw [if_neg e1, if_neg e2]
          exact hp
    obtain ⟨A3, c3, rfl, _⟩ := hv.out
    refine ⟨_, _, _, _, rfl, ?_, f2.trans' f3⟩
    unfold mayB OrdC
    rw [hys, hr, hany, decide_eq_true hg, Int.toNat_natCast, if_pos hrg]
    simp
/-! ### The laws -/
variable {W : World} {al : List Cl} {c : Nat}
theorem bankerOrders_ok (h : RowAt W.heap.size 2 (ClQ W W.heap.size) A al) (hc : al.length ≤ c) (hm : c ≤ 9223372036854775807) : Ret Try.prog 4 [.slice A al.length c] W (Done W) := by
  apply S4_calls
  refine (few_ok h (Fr.refl _ _) (Nat.le_refl _) hc hm).use ?_
  rintro v W' ⟨rfl, rfl⟩
  have hcl := fw_cls h
  refine ⟨_, _, _, rfl, ?_⟩
  refine (Order_ok hcl c).use ?_
  rintro v w1 ⟨hv1, f1⟩
  obtain ⟨A1, c1, rfl, o1⟩ := hv1.out
  refine ⟨_, _, _, _, rfl, ?_⟩
  refine (rOrder_ok (hcl.fr0 f1) c).use ?_
  rintro v w2 ⟨hv2, f2⟩
  obtain ⟨A2, c2, rfl, o2⟩ := hv2.out
  refine ⟨_, _, _, _, rfl, ?_⟩
  refine (shown_ok w2).use ?_
  rintro v w3 ⟨rfl, f3⟩
  refine ⟨_, rfl, cT rfl ?_⟩
  have f03 := f1.trans' (f2.trans' f3)
  refine (Right_ok (hcl.fr0 f03) c).use ?_
  rintro v w4 ⟨rfl, f4⟩
  refine ⟨_, rfl, ?_⟩
  refine (rRight_ok ((hcl.fr0 f03).fr0 f4) c).use ?_
  rintro v w5 ⟨rfl, f5⟩
  refine ⟨_, rfl, cT (by simp) ?_⟩
  have f35 := f3.trans' (f4.trans' f5)
  have hol : ((OrdC (cms (fw al))).getD []).length ≤ 100 := by
    cases ho : OrdC (cms (fw al)) with
    | none => simp
    | some r =>
      unfold OrdC at ho
      split at ho
      · have := (ord_told ho).2
        rw [cms_len] at this
        have := (fw_len al).1
        simp only [Option.getD_some]
        omega
      · cases ho
  have hs := same_ok (l := natI ((OrdC (cms (fw al))).getD [])) (k := natI ((OrdC (cms (fw al))).getD [])) (c := c1) (c2 := c2) (((o1.fr f2 fun _ _ _ h => h).fr f35 fun _ _ _ h => h).rd) ((o2.fr f35 fun _ _ _ h => h).rd) (by rw [natI_len]; omega)
  rw [natI_len] at hs
  refine hs.use ?_
  rintro v w6 ⟨rfl, f6⟩
  refine ⟨_, rfl, cT (by simp) (cT (by simp) ?_)⟩
  have f06 := f1.trans' (f2.trans' (f35.trans' f6))
  refine (Safe_ok (hcl.fr0 f06) c).use ?_
  rintro v w7 ⟨rfl, f7⟩
  refine ⟨_, rfl, ?_, f06.trans' f7⟩
  unfold safeB
  simp
theorem bankerMays_ok (h : RowAt W.heap.size 2 (ClQ W W.heap.size) A al) (hc : al.length ≤ c) (hm : c ≤ 9223372036854775807) (who z : Int) : Ret Try.prog 8 [.slice A al.length c, .int .i64 who, .int .i64 z] W (Done W) := by
  apply S8_calls
  refine (shown_ok W).use ?_
  rintro v w1 ⟨rfl, f1⟩
  refine ⟨_, rfl, cT rfl ?_⟩
  refine (few_ok h f1.bel0 (Nat.le_refl _) hc hm).use ?_
  rintro v w1 ⟨rfl, rfl⟩
  have hcl := (fw_cls h).fr0 f1
  refine ⟨_, _, _, rfl, ?_⟩
  refine (May_ok hcl c who z).use ?_
  rintro v w2 ⟨rfl, f2⟩
  have f12 := f1.trans' f2
  refine ⟨_, rfl, ?_⟩
  refine (few_ok h f12.bel0 (Nat.le_refl _) hc hm).use ?_
  rintro v w2 ⟨rfl, rfl⟩
  refine ⟨_, _, _, rfl, ?_⟩
  refine (rMay_ok (hcl.fr0 f2) (fun x hx => by have := fw_small x hx; omega) c who z).use ?_
  rintro v w3 ⟨rfl, f3⟩
  exact ⟨_, rfl, by simp, f12.trans' f3⟩
end
end Go.Proofs
