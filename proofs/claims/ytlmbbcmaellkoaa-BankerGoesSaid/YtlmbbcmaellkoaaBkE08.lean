/- Claims of the program: which are right, which are safe. -/
import Derived.Test.YtlmbbcmaellkoaaBkD08
set_option linter.unusedVariables false
namespace Go.Proofs
open Go Go.Eng
structure Cl where
  hA : Option Addr
  hc : Nat
  h : List Int
  nA : Option Addr
  nc : Nat
  n : List Int
def clc (x : Cl) : List Value := [.slice x.hA x.h.length x.hc, .slice x.nA x.n.length x.nc]
def clm (x : Cl) : Cm := (x.h, x.n)
def cms (xs : List Cl) : List Cm := xs.map clm
theorem clc_len (x : Cl) : (clc x).length = 2 := rfl
theorem clc_one (x : Cl) : ∀ v ∈ clc x, v.oneCell' = true := by
  intro u hu
  simp only [clc, List.mem_cons, List.not_mem_nil, or_false] at hu
  rcases hu with rfl | rfl <;> rfl
theorem cms_len (xs : List Cl) : (cms xs).length = xs.length := by simp [cms]
def ClR (w : World) (ok : Nat → Prop) (x : Cl) : Prop := Rd w ok x.hA (ints x.h) ∧ Rd w ok x.nA (ints x.n) ∧ x.h.length ≤ 1000 ∧ x.n.length ≤ 1000 ∧ x.h.length ≤ x.hc ∧ x.n.length ≤ x.nc
def Cls (w : World) (ok : Nat → Prop) (A : Option Addr) (xs : List Cl) : Prop := Rd w ok A (rws clc xs) ∧ (∀ x ∈ xs, ClR w ok x) ∧ xs.length ≤ 100
theorem ClR.fr {F : Nat → Prop} {w w' : World} {ok : Nat → Prop} {x : Cl} (h : ClR w ok x) (f : Fr F w w') (hd : ∀ k, k < w.heap.size → ok k → ¬ F k) : ClR w' ok x := ⟨h.1.fr f hd, h.2.1.fr f hd, h.2.2⟩
theorem Cls.fr {F : Nat → Prop} {w w' : World} {ok : Nat → Prop} {A : Option Addr} {xs : List Cl} (h : Cls w ok A xs) (f : Fr F w w') (hd : ∀ k, k < w.heap.size → ok k → ¬ F k) : Cls w' ok A xs := ⟨h.1.fr f hd, fun x hx => (h.2.1 x hx).fr f hd, h.2.2⟩
theorem Cls.fr0 {w w' : World} {ok : Nat → Prop} {A : Option Addr} {xs : List Cl} (h : Cls w ok A xs) (f : Fr none1 w w') : Cls w' ok A xs := h.fr f fun _ _ _ h => h
theorem cl_at {w : World} {ok : Nat → Prop} {A : Option Addr} {xs : List Cl} (h : Cls w ok A xs) {i : Nat} {x : Cl} (hx : xs[i]? = some x) : ∃ t, A = some t ∧ ok t.block ∧ w.cell? (t.add (Int.toNat (i : Int) * 2)) = some (.slice x.hA x.h.length x.hc) ∧ w.cell? ((t.add (Int.toNat (i : Int) * 2)).add 1) = some (.slice x.nA x.n.length x.nc) ∧ ClR w ok x := by
  obtain ⟨t, ht, hk, hc⟩ := h.1.elem clc_len hx (by decide)
  have c0 := hc 0 _ (by decide) rfl
  have c1 := hc 1 _ (by decide) rfl
  rw [add_zero'] at c0
  rw [Int.toNat_natCast]
  exact ⟨t, ht, hk, c0, c1, h.2.1 x (List.mem_of_getElem? hx)⟩
theorem g_at {xs : List Cl} {i : Nat} {x : Cl} (h : xs[i]? = some x) : g (cms xs) i = (x.h, x.n) := by
  unfold Go.Eng.g cms
  rw [List.getElem?_map, h]; rfl
theorem cms_take {xs : List Cl} {i : Nat} {x : Cl} (h : xs[i]? = some x) : cms (xs.take (i + 1)) = cms (xs.take i) ++ [(x.h, x.n)] := by
  unfold cms
  rw [take_snoc h, List.map_append]; rfl
theorem not_right {xs : List Cl} {i : Nat} (h : ¬ Rt (cms (xs.take i))) : rightB (cms xs) = false := by
  rw [Bool.eq_false_iff]
  intro e
  have := (rightB_iff.1 e).2
  have e2 : cms xs = cms (xs.take i) ++ cms (xs.drop i) := by unfold cms; rw [← List.map_append, List.take_append_drop]
  rw [e2] at this
  exact h this.prefix
theorem disj_flat {l : List Cm} {h : List Int} : disj (l.flatMap (·.1)) h = true ↔ ∀ a ∈ l, disj h a.1 = true := by
  rw [disj_iff]
  constructor
  · intro H a ha
    rw [disj_comm, disj_iff]
    exact fun z hz => H z (List.mem_flatMap.2 ⟨a, ha, hz⟩)
  · intro H z hz
    obtain ⟨a, ha, hz⟩ := List.mem_flatMap.1 hz
    have := H a ha
    rw [disj_comm, disj_iff] at this
    exact this z hz
section
variable {w : World} {ok ok2 : Nat → Prop} {A A2 : Option Addr} {xs : List Cl}
theorem sides_ok (h : Cls w ok A xs) (c : Nat) : Ret Try.prog 22 [.slice A xs.length c] w fun v w' => ((rightB (cms xs) = true ∧ ∃ A' c' ss, v = .tuple ⟨[.slice A' ss.length c', .bool true]⟩ ∧ Own w' 48 2 (from1 w.heap.size) A' ss.length c' (rws scell ss) ∧ SidesOf ss (cms xs)) ∨ (rightB (cms xs) = false ∧ v = .tuple ⟨[.slice none 0 0, .bool false]⟩)) ∧ Fr none1 w w' := by
  have hlx := h.2.2
  apply S22_calls
  refine cD (fun hlong => ?_) (fun hshort => ?_)
  · refine ⟨.inr ⟨?_, rfl⟩, Fr.refl _ _⟩
    rw [Bool.eq_false_iff]
    intro e
    have := (rightB_iff.1 e).1
    rw [cms_len] at this
    omega
  refine ⟨fun s w' => ∃ (i m : Nat) (ss : List (Nat × Nat)), s.2.1 = (m : Int) ∧ s.2.2.1 = (i : Int) ∧ i ≤ xs.length ∧ s.1.2.1 = ss.length ∧ ss.length = i ∧ (∀ j s, ss[j]? = some s → Mask s.1 (g (cms xs) j).1 ∧ Mask s.2 (g (cms xs) j).2) ∧ Mask m ((cms (xs.take i)).flatMap (·.1)) ∧ Rt (cms (xs.take i)) ∧ Own w' 48 2 (from1 w.heap.size) s.1.1 ss.length s.1.2.2 (rws scell ss) ∧ Fr none1 w w',
    fun s _ => xs.length - s.2.2.1.toNat, ⟨0, 0, [], rfl, rfl, Nat.zero_le _, rfl, rfl, by simp, Mask.nil, ⟨by simp [cms], by simp [cms]⟩, Own.nil _ _ _ _, Fr.refl _ _⟩, ?_⟩
  rintro J ⟨⟨Ao, lo, co⟩, m', i', ⟨⟩⟩ w1 ⟨i, m, ss, hm, hi, hil, hlo, hssl, hss, hmk, hrt, o1, f1⟩
  dsimp only at hm hi hlo o1 ⊢
  subst hm hi hlo
  refine cD (fun hlt => ?_) (fun hlt => ?_)
  · have hlt' : i < xs.length := by have : (i : Int) < (xs.length : Int) := hlt; omega
    have hx : xs[i]? = some xs[i] := List.getElem?_eq_getElem hlt'
    generalize xs[i] = x at hx
    obtain ⟨t, ht, _, c0, c1, hr1, hr2, hl1, hl2⟩ := cl_at (h.fr0 f1) hx
    refine ⟨t, ht, by omega, by omega, _, _, _, c0, _, _, _, c1, ?_⟩
    obtain ⟨p1, p2, p3, p4, b2, f2⟩ := cp2 w1 28 (.slice none 0 0) (.slice none 0 0) (.slice x.hA x.h.length x.hc) (.slice x.nA x.n.length x.nc)
    refine ⟨p1, p2, p3, p4, ?_⟩
    generalize World.setCell _ _ _ = w2 at b2 f2 ⊢
    have f12 := f1.trans' f2
    have o2 := o1.fr f2 fun _ _ _ h => h
    refine ⟨_, _, _, (b2.cell 0).trans rfl, ?_⟩
    refine (of_ok (c := x.hc) (hr1.fr f2 fun _ _ _ h => h) (by omega)).use ?_
    rintro v w2 ⟨mh, rfl, hmh, rfl⟩
    refine ⟨_, _, rfl, _, _, _, (b2.cell 1).trans rfl, ?_⟩
    refine (of_ok (c := x.nc) (hr2.fr f2 fun _ _ _ h => h) (by omega)).use ?_
    rintro v w2 ⟨mn, rfl, hmn, rfl⟩
    have hcs := cms_take hx
    have bad : ¬ (okZ x.h = true ∧ okZ x.n = true ∧ ∀ a ∈ cms (xs.take i), disj x.h a.1 = true) → ((rightB (cms xs) = true ∧ ∃ A' c' ss, Value.tuple ⟨[.slice none 0 0, .bool false]⟩ = .tuple ⟨[.slice A' ss.length c', .bool true]⟩ ∧ Own w2 48 2 (from1 w.heap.size) A' ss.length c' (rws scell ss) ∧ SidesOf ss (cms xs)) ∨ (rightB (cms xs) = false ∧ Value.tuple ⟨[.slice none 0 0, .bool false]⟩ = .tuple ⟨[.slice none 0 0, .bool false]⟩)) ∧ Fr none1 w w2 := by
      intro hb
      refine ⟨.inr ⟨not_right (i := i + 1) fun e => hb ?_, rfl⟩, f12⟩
      rw [hcs, Rt.snoc] at e
      exact e.2
    refine ⟨_, _, rfl, ?_⟩
    cases hzh : okZ x.h with
    | false => exact cT rfl (cT rfl (bad (by rw [hzh]; simp)))
    | true =>
    cases hzn : okZ x.n with
    | false => exact cF rfl (cT rfl (cT rfl (bad (by rw [hzn]; simp))))
    | true =>
    have mh' := hmh hzh
    have mn' := hmn hzn
    refine cF rfl (cF rfl ?_)
    have hpos : ∀ z ∈ (cms (xs.take i)).flatMap (·.1), 0 ≤ z := fun z hz => by
      obtain ⟨a, ha, hz⟩ := List.mem_flatMap.1 hz
      exact (okZ_iff.1 (hrt.1 a ha).1 z hz).1
    rw [hmk.dec mh' hpos]
    cases hd : disj ((cms (xs.take i)).flatMap (·.1)) x.h with
    | false =>
      refine cT rfl (bad fun e => ?_)
      rw [disj_flat.2 e.2.2] at hd; cases hd
    | true =>
      refine cF rfl ?_
      have fl : Fr none1 w2 (w2.alloc (.cells ⟨[.int .u32 (mh : Int), .int .u32 (mn : Int)]⟩ 48)) := Fr.alloc _ _
      have lit := Own.lit w2 48 2 1 (scell (mh, mn)) rfl (by simp [maxLen])
      obtain ⟨A', c', w', r', o', f', _⟩ := run_append (ty := 36) (m := 1) (c2 := 1) Eside (o2.fr fl fun _ _ _ h => h) rfl lit.rd (scell_one _) (by omega) (by simp only [maxLen]; omega)
      have hsz : w.heap.size ≤ w2.heap.size := f12.size
      refine ⟨A', _, c', w', r', ?_⟩
      rw [or32 hmk.lt mh'.lt, nextI (by omega)]
      refine ⟨⟨i + 1, _, ss ++ [(mh, mn)], rfl, rfl, by omega, by simp, by simp [hssl], fun j s hj => ?_, ?_, ?_, ?_, ?_⟩, by dsimp only; omega⟩
      · by_cases ej : j < ss.length
        · rw [List.getElem?_append_left ej] at hj; exact hss j s hj
        · rw [List.getElem?_append_right (by omega)] at hj
          have : j = i := by
            have := (List.getElem?_eq_some_iff.1 hj).1
            simp at this; omega
          subst this
          rw [hssl, Nat.sub_self] at hj
          simp at hj
          subst hj
          rw [g_at hx]
          exact ⟨mh', mn'⟩
      · rw [hcs, List.flatMap_append]
        have := hmk.or mh'
        simpa using this
      · rw [hcs, Rt.snoc]
        exact ⟨hrt, hzh, hzn, disj_flat.1 hd⟩
      · rw [List.length_append, rws_append, rws_one]
        refine o'.mono fun k _ hk => ?_
        rcases hk with hk | hk
        · exact hk
        · have := fl.size
          show w.heap.size ≤ k
          omega
      · exact (f12.trans' fl).trans f' fun k hk ⟨a, ha, e⟩ => by
          have := ((o2.fr fl fun _ _ _ h => h).has a ha).1
          rw [e] at this
          have : w.heap.size ≤ k := this
          omega
  · have hge : i = xs.length := by have : ¬ (i : Int) < (xs.length : Int) := hlt; omega
    subst hge
    rw [List.take_length] at hrt hmk
    refine ⟨.inl ⟨rightB_iff.2 ⟨by rw [cms_len]; omega, hrt⟩, Ao, co, ss, rfl, o1, by rw [cms_len]; exact hssl, hss⟩, f1⟩
/-- What an order's call gives. -/
def OrdV (o : Option (List Nat)) (B : Nat) (v : Value) (w' : World) : Prop := match o with
  | some r => ∃ A' c', v = .tuple ⟨[.slice A' r.length c', .bool true]⟩ ∧ Own w' 3 1 (from1 B) A' r.length c' (ints (natI r))
  | none => v = .tuple ⟨[.slice none 0 0, .bool false]⟩
theorem OrdV.out {o : Option (List Nat)} {B : Nat} {v : Value} {w' : World} (h : OrdV o B v w') : ∃ (A' : Option Addr) (c' : Nat), v = .tuple ⟨[.slice A' (o.getD []).length c', .bool o.isSome]⟩ ∧ Own w' 3 1 (from1 B) A' (o.getD []).length c' (ints (natI (o.getD []))) := by
  cases o with
  | none => exact ⟨none, 0, h, Own.nil _ _ _ _⟩
  | some r => exact h
theorem Order_ok (h : Cls w ok A xs) (c : Nat) : Ret Try.prog 14 [.slice A xs.length c] w fun v w' => OrdV (OrdC (cms xs)) w.heap.size v w' ∧ Fr none1 w w' := by
  apply S14_calls
  refine (sides_ok h c).use ?_
  rintro v w1 ⟨hv, f1⟩
  rcases hv with ⟨hr, A1, c1, ss, rfl, o1, hs⟩ | ⟨hr, rfl⟩
  · refine ⟨_, _, _, _, rfl, cF rfl ?_⟩
    have hlx := h.2.2
    refine (order_ok (c := c1) o1.rd hs (rightB_iff.1 hr).2.1 (by rw [cms_len]; omega)).use ?_
    rintro v w2 ⟨hv, f2⟩
    have e : OrdC (cms xs) = ord (cms xs) := by unfold OrdC; rw [if_pos hr]
    rw [e]
    cases ho : ord (cms xs) with
    | none =>
      rw [ho] at hv
      simp only at hv
      subst hv
      exact ⟨_, _, _, _, rfl, rfl, f1.trans' f2⟩
    | some r =>
      rw [ho] at hv
      obtain ⟨A2, c2, rfl, o2⟩ := hv
      have := f1.size
      exact ⟨_, _, _, _, rfl, ⟨A2, c2, rfl, o2.mono fun k _ hk => Nat.le_trans this hk⟩, f1.trans' f2⟩
  · refine ⟨_, _, _, _, rfl, cT rfl ⟨?_, f1⟩⟩
    have e : OrdC (cms xs) = none := by unfold OrdC; rw [if_neg (by rw [hr]; decide)]
    rw [e]; rfl
theorem Safe_ok (h : Cls w ok A xs) (c : Nat) : Ret Try.prog 12 [.slice A xs.length c] w fun v w' => v = .bool (safeB (cms xs)) ∧ Fr none1 w w' := by
  apply S12_calls
  refine (Order_ok h c).use ?_
  rintro v w1 ⟨hv, f1⟩
  obtain ⟨A1, c1, rfl, _⟩ := hv.out
  exact ⟨_, _, _, _, rfl, rfl, f1⟩
theorem Right_ok (h : Cls w ok A xs) (c : Nat) : Ret Try.prog 16 [.slice A xs.length c] w fun v w' => v = .bool (rightB (cms xs)) ∧ Fr none1 w w' := by
  apply S16_calls
  refine (sides_ok h c).use ?_
  rintro v w1 ⟨hv, f1⟩
  rcases hv with ⟨hr, A1, c1, ss, rfl, o1, hs⟩ | ⟨hr, rfl⟩
  · rw [hr]; exact ⟨_, _, _, _, rfl, rfl, f1⟩
  · rw [hr]; exact ⟨_, _, _, _, rfl, rfl, f1⟩
end
end Go.Proofs
