/- Claims: the examples; the claims that came in; all but one. -/
import Derived.Test.YtlmbbcmaellkoaaBkF08
set_option linter.unusedVariables false
namespace Go.Proofs
open Go Go.Eng
def Done (W : World) (v : Value) (w : World) : Prop := v = .bool true ∧ Fr none1 W w
theorem rd_blk {w : World} {p : Nat} {t : TypeId} {vs : List Value} (h : Blk w p t vs) : Rd w (fun _ => True) (some ⟨p, 0, none⟩) vs :=
  .inr ⟨_, rfl, trivial, fun j v hv => by rw [add_g, h.cell]; exact hv⟩
theorem ex_a : rightB [([1], [2]), ([2], [1])] = true ∧ ord [([1], [2]), ([2], [1])] = none := ⟨rightB_iff.2 ⟨by decide, by unfold Rt; decide⟩, by decide⟩
theorem ex_b : rightB [([1], [2]), ([2], [3])] = true ∧ ord [([1], [2]), ([2], [3])] = some [1, 0] := ⟨rightB_iff.2 ⟨by decide, by unfold Rt; decide⟩, by decide⟩
theorem cls_two {w : World} {p p1 p2 p3 p4 : Nat} {a b c d : Int} (h1 : Blk w p1 3 [.int .i64 a]) (h2 : Blk w p2 3 [.int .i64 b]) (h3 : Blk w p3 3 [.int .i64 c]) (h4 : Blk w p4 3 [.int .i64 d])
    (h : Blk w p 28 [.slice (some ⟨p1, 0, none⟩) 1 1, .slice (some ⟨p2, 0, none⟩) 1 1, .slice (some ⟨p3, 0, none⟩) 1 1, .slice (some ⟨p4, 0, none⟩) 1 1]) :
    Cls w (fun _ => True) (some ⟨p, 0, none⟩) [⟨some ⟨p1, 0, none⟩, 1, [a], some ⟨p2, 0, none⟩, 1, [b]⟩, ⟨some ⟨p3, 0, none⟩, 1, [c], some ⟨p4, 0, none⟩, 1, [d]⟩] := by
  refine ⟨rd_blk h, ?_, by simp⟩
  intro x hx
  simp only [List.mem_cons, List.not_mem_nil, or_false] at hx
  rcases hx with rfl | rfl
  · exact ⟨rd_blk h1, rd_blk h2, by simp, by simp, by simp, by simp⟩
  · exact ⟨rd_blk h3, rd_blk h4, by simp, by simp, by simp, by simp⟩
theorem shown_ok (W : World) : Ret Try.prog 10 [] W fun v w' => v = .bool true ∧ Fr none1 W w' := by
  apply S10_calls
  unfold S10
  have b1 := Blk.new W 3 [.int .i64 1]
  have f1 : Fr none1 W (W.alloc (.cells ⟨[.int .i64 1]⟩ 3)) := Fr.alloc _ _
  generalize W.alloc (.cells ⟨[.int .i64 1]⟩ 3) = w1 at b1 f1 ⊢
  generalize W.heap.size = p1 at b1 ⊢
  have b2 := Blk.new w1 3 [.int .i64 2]
  have f2 : Fr none1 w1 (w1.alloc (.cells ⟨[.int .i64 2]⟩ 3)) := Fr.alloc _ _
  generalize w1.alloc (.cells ⟨[.int .i64 2]⟩ 3) = w2 at b2 f2 ⊢
  generalize w1.heap.size = p2 at b2 ⊢
  have b3 := Blk.new w2 3 [.int .i64 2]
  have f3 : Fr none1 w2 (w2.alloc (.cells ⟨[.int .i64 2]⟩ 3)) := Fr.alloc _ _
  generalize w2.alloc (.cells ⟨[.int .i64 2]⟩ 3) = w3 at b3 f3 ⊢
  generalize w2.heap.size = p3 at b3 ⊢
  have b4 := Blk.new w3 3 [.int .i64 1]
  have f4 : Fr none1 w3 (w3.alloc (.cells ⟨[.int .i64 1]⟩ 3)) := Fr.alloc _ _
  generalize w3.alloc (.cells ⟨[.int .i64 1]⟩ 3) = w4 at b4 f4 ⊢
  generalize w3.heap.size = p4 at b4 ⊢
  have b5 := Blk.new w4 28 [.slice (some ⟨p1, 0, none⟩) 1 1, .slice (some ⟨p2, 0, none⟩) 1 1, .slice (some ⟨p3, 0, none⟩) 1 1, .slice (some ⟨p4, 0, none⟩) 1 1]
  have f5 : Fr none1 w4 (w4.alloc (.cells ⟨[.slice (some ⟨p1, 0, none⟩) 1 1, .slice (some ⟨p2, 0, none⟩) 1 1, .slice (some ⟨p3, 0, none⟩) 1 1, .slice (some ⟨p4, 0, none⟩) 1 1]⟩ 28)) := Fr.alloc _ _
  generalize w4.alloc (.cells ⟨[.slice (some ⟨p1, 0, none⟩) 1 1, .slice (some ⟨p2, 0, none⟩) 1 1, .slice (some ⟨p3, 0, none⟩) 1 1, .slice (some ⟨p4, 0, none⟩) 1 1]⟩ 28) = w5 at b5 f5 ⊢
  generalize w4.heap.size = p5 at b5 ⊢
  have ca := cls_two ((((b1.fr f2 fun h => h).fr f3 fun h => h).fr f4 fun h => h).fr f5 fun h => h) (((b2.fr f3 fun h => h).fr f4 fun h => h).fr f5 fun h => h) ((b3.fr f4 fun h => h).fr f5 fun h => h) (b4.fr f5 fun h => h) b5
  have f15 := f1.trans' (f2.trans' (f3.trans' (f4.trans' f5)))
  clear b1 b2 b3 b4 b5 f1 f2 f3 f4 f5
  have b1 := Blk.new w5 3 [.int .i64 1]
  have f1 : Fr none1 w5 (w5.alloc (.cells ⟨[.int .i64 1]⟩ 3)) := Fr.alloc _ _
  generalize w5.alloc (.cells ⟨[.int .i64 1]⟩ 3) = w6 at b1 f1 ⊢
  generalize w5.heap.size = q1 at b1 ⊢
  have b2 := Blk.new w6 3 [.int .i64 2]
  have f2 : Fr none1 w6 (w6.alloc (.cells ⟨[.int .i64 2]⟩ 3)) := Fr.alloc _ _
  generalize w6.alloc (.cells ⟨[.int .i64 2]⟩ 3) = w7 at b2 f2 ⊢
  generalize w6.heap.size = q2 at b2 ⊢
  have b3 := Blk.new w7 3 [.int .i64 2]
  have f3 : Fr none1 w7 (w7.alloc (.cells ⟨[.int .i64 2]⟩ 3)) := Fr.alloc _ _
  generalize w7.alloc (.cells ⟨[.int .i64 2]⟩ 3) = w8 at b3 f3 ⊢
  generalize w7.heap.size = q3 at b3 ⊢
  have b4 := Blk.new w8 3 [.int .i64 3]
  have f4 : Fr none1 w8 (w8.alloc (.cells ⟨[.int .i64 3]⟩ 3)) := Fr.alloc _ _
  generalize w8.alloc (.cells ⟨[.int .i64 3]⟩ 3) = w9 at b4 f4 ⊢
  generalize w8.heap.size = q4 at b4 ⊢
  have b5 := Blk.new w9 28 [.slice (some ⟨q1, 0, none⟩) 1 1, .slice (some ⟨q2, 0, none⟩) 1 1, .slice (some ⟨q3, 0, none⟩) 1 1, .slice (some ⟨q4, 0, none⟩) 1 1]
  have f5 : Fr none1 w9 (w9.alloc (.cells ⟨[.slice (some ⟨q1, 0, none⟩) 1 1, .slice (some ⟨q2, 0, none⟩) 1 1, .slice (some ⟨q3, 0, none⟩) 1 1, .slice (some ⟨q4, 0, none⟩) 1 1]⟩ 28)) := Fr.alloc _ _
  generalize w9.alloc (.cells ⟨[.slice (some ⟨q1, 0, none⟩) 1 1, .slice (some ⟨q2, 0, none⟩) 1 1, .slice (some ⟨q3, 0, none⟩) 1 1, .slice (some ⟨q4, 0, none⟩) 1 1]⟩ 28) = w10 at b5 f5 ⊢
  generalize w9.heap.size = q5 at b5 ⊢
  have cb := cls_two ((((b1.fr f2 fun h => h).fr f3 fun h => h).fr f4 fun h => h).fr f5 fun h => h) (((b2.fr f3 fun h => h).fr f4 fun h => h).fr f5 fun h => h) ((b3.fr f4 fun h => h).fr f5 fun h => h) (b4.fr f5 fun h => h) b5
  have f60 := f1.trans' (f2.trans' (f3.trans' (f4.trans' f5)))
  have ca' := ca.fr0 f60
  have f010 := f15.trans' f60
  refine (Order_ok cb 2).use ?_
  rintro v u1 ⟨hv, g1⟩
  have e1 : OrdC [([1], [2]), ([2], [3])] = some [1, 0] := by unfold OrdC; rw [if_pos ex_b.1, ex_b.2]
  have hv' : OrdV (OrdC [([1], [2]), ([2], [3])]) w10.heap.size v u1 := hv
  rw [e1] at hv'
  obtain ⟨A', c', rfl, o'⟩ := hv'
  refine ⟨_, _, _, _, rfl, ?_⟩
  refine (Safe_ok (ca'.fr0 g1) 2).use ?_
  rintro v u2 ⟨rfl, g2⟩
  have e2 : safeB [([1], [2]), ([2], [1])] = false := by unfold safeB OrdC; rw [if_pos ex_a.1, ex_a.2]; rfl
  have e2' : ∀ (x y : Cl), safeB (cms [⟨x.hA, x.hc, [1], x.nA, x.nc, [2]⟩, ⟨y.hA, y.hc, [2], y.nA, y.nc, [1]⟩]) = false := fun x y => e2
  refine ⟨_, rfl, cT (by rw [show cms _ = [([1], [2]), ([2], [1])] from rfl, e2]; rfl) ?_⟩
  refine (Safe_ok ((cb.fr0 g1).fr0 g2) 2).use ?_
  rintro v u3 ⟨rfl, g3⟩
  have e3 : safeB [([1], [2]), ([2], [3])] = true := by unfold safeB; rw [e1]; rfl
  refine ⟨_, rfl, cT (by rw [show cms _ = [([1], [2]), ([2], [3])] from rfl, e3]) (cT rfl ?_)⟩
  have g13 := g1.trans' (g2.trans' g3)
  have fl : Fr none1 u3 (u3.alloc (.cells ⟨[.int .i64 1, .int .i64 0]⟩ 3)) := Fr.alloc _ _
  have bl := Blk.new u3 3 [.int .i64 1, .int .i64 0]
  have hs := same_ok (l := [1, 0]) (k := [1, 0]) (A := A') (c := c') (c2 := 2) (((o'.fr g2 fun _ _ _ h => h).fr g3 fun _ _ _ h => h).fr fl fun _ _ _ h => h).rd (rd_blk bl) (by simp)
  refine hs.use ?_
  rintro v u4 ⟨rfl, g4⟩
  exact ⟨_, rfl, by rw [decide_eq_true rfl], f010.trans' (g13.trans' (fl.trans' g4))⟩
/-! ### The claims that came in -/
def small (x : Cl) : Bool := decide (x.h.length ≤ 40) && decide (x.n.length ≤ 40)
def fw (al : List Cl) : List Cl := (al.take 9).takeWhile small
def ClQ (w : World) (B : Nat) (a : Addr) (x : Cl) : Prop := (∀ j v, (clc x)[j]? = some v → w.cell? (a.add j) = some v) ∧ Rd w (fun k => k < B) x.hA (ints x.h) ∧ Rd w (fun k => k < B) x.nA (ints x.n) ∧ x.h.length ≤ x.hc ∧ x.n.length ≤ x.nc
theorem rd_row {α : Type} {f : α → List Value} {sz : Nat} (hf : ∀ a, (f a).length = sz) (hsz : 0 < sz) {w : World} {B : Nat} {A : Option Addr} {xs : List α} {Q : Addr → α → Prop} (h : RowAt B sz Q A xs) (hQ : ∀ a x, Q a x → ∀ j v, (f x)[j]? = some v → w.cell? (a.add j) = some v) : Rd w (fun k => k < B) A (rws f xs) := by
  cases xs with
  | nil => exact .inl rfl
  | cons z zs =>
    obtain ⟨a, ha, hb, _⟩ := h 0 z rfl
    refine .inr ⟨a, ha, hb, fun j v hv => ?_⟩
    have hlen : j < (rws f (z :: zs)).length := (List.getElem?_eq_some_iff.1 hv).1
    rw [rws_length hf] at hlen
    have hj : j / sz < (z :: zs).length := by
      rw [Nat.div_lt_iff_lt_mul hsz]; exact hlen
    have hx : (z :: zs)[j / sz]? = some (z :: zs)[j / sz] := List.getElem?_eq_getElem hj
    have h1 := rws_get hf hx (j := j % sz) (Nat.mod_lt _ hsz)
    have e : j / sz * sz + j % sz = j := by rw [Nat.mul_comm]; exact Nat.div_add_mod j sz
    rw [e, hv] at h1
    obtain ⟨a2, ha2, _, hq⟩ := h (j / sz) _ hx
    rw [ha] at ha2
    cases ha2
    have := hQ _ _ hq (j % sz) v h1.symm
    rw [add_add, e] at this
    exact this
theorem takeWhile_get {p : Cl → Bool} : ∀ {l : List Cl} {i : Nat} {x : Cl}, (l.takeWhile p)[i]? = some x → l[i]? = some x ∧ p x = true
  | [], i, x, h => by simp at h
  | a :: l, i, x, h => by
    rw [List.takeWhile_cons] at h
    split at h
    · rename_i hp
      cases i with
      | zero => simp at h; subst h; exact ⟨rfl, hp⟩
      | succ i => simp at h ⊢; exact takeWhile_get h
    · simp at h
theorem fw_get {al : List Cl} {i : Nat} {x : Cl} (h : (fw al)[i]? = some x) : al[i]? = some x ∧ small x = true ∧ i < 9 := by
  obtain ⟨h1, h2⟩ := takeWhile_get h
  rw [List.getElem?_take] at h1
  split at h1
  · exact ⟨h1, h2, by assumption⟩
  · cases h1
theorem fw_cls {w : World} {B : Nat} {A : Option Addr} {al : List Cl} (h : RowAt B 2 (ClQ w B) A al) : Cls w (fun k => k < B) A (fw al) := by
  have hrow : RowAt B 2 (ClQ w B) A (fw al) := fun i z hz => h i z (fw_get hz).1
  refine ⟨rd_row clc_len (by decide) hrow fun a x hq => hq.1, fun x hx => ?_, ?_⟩
  · obtain ⟨i, hi⟩ := List.getElem?_of_mem hx
    obtain ⟨a, _, _, hq⟩ := hrow i x hi
    have hs := (fw_get hi).2.1
    simp [small] at hs
    exact ⟨hq.2.1, hq.2.2.1, by omega, by omega, hq.2.2.2.1, hq.2.2.2.2⟩
  · have h1 : (fw al).length ≤ (al.take 9).length := (List.takeWhile_sublist small).length_le
    have h2 := List.length_take_le 9 al
    omega
theorem fw_len (al : List Cl) : (fw al).length ≤ 9 ∧ (fw al).length ≤ al.length := by
  have h1 : (fw al).length ≤ (al.take 9).length := (List.takeWhile_sublist small).length_le
  rw [List.length_take] at h1
  omega
theorem fw_small {al : List Cl} : ∀ x ∈ fw al, x.h.length ≤ 40 ∧ x.n.length ≤ 40 := by
  intro x hx
  obtain ⟨i, hi⟩ := List.getElem?_of_mem hx
  have hs := (fw_get hi).2.1
  simpa [small] using hs
theorem fw_at {al : List Cl} {i : Nat} (hall : ∀ j x, j < i → al[j]? = some x → small x = true) (h9 : i ≤ 9) (hil : i ≤ al.length) (hend : i = 9 ∨ i = al.length ∨ ∃ x, al[i]? = some x ∧ small x = false) : fw al = al.take i := by
  unfold fw
  have e : al.take 9 = al.take i ++ (al.drop i).take (9 - i) := by
    rw [List.take_drop, show i + (9 - i) = 9 by omega]
    conv => lhs; rw [← List.take_append_drop i (al.take 9)]
    rw [List.take_take, Nat.min_eq_left h9]
  rw [e, List.takeWhile_append_of_pos]
  · have : ((al.drop i).take (9 - i)).takeWhile small = [] := by
      rcases hend with h | h | ⟨x, hx, hs⟩
      · subst h; simp
      · subst h; simp
      · have hd : al.drop i = x :: al.drop (i + 1) := by
          obtain ⟨h1, h2⟩ := List.getElem?_eq_some_iff.1 hx
          rw [List.drop_eq_getElem_cons h1, h2]
        rw [hd]
        cases h9 : 9 - i with
        | zero => rfl
        | succ m => rw [List.take_succ_cons, List.takeWhile_cons, hs]; rfl
    rw [this, List.append_nil]
  · intro x hx
    obtain ⟨j, hj⟩ := List.getElem?_of_mem hx
    rw [List.getElem?_take] at hj
    split at hj
    · rename_i hji; exact hall j x hji hj
    · cases hj
theorem few_ok {w0 w : World} {B : Nat} {A : Option Addr} {al : List Cl} {c : Nat} (h : RowAt B 2 (ClQ w0 B) A al) (g : Bel B w0 w) (hB : B ≤ w0.heap.size) (hc : al.length ≤ c) (hm : c ≤ 9223372036854775807) : Ret Try.prog 11 [.slice A al.length c] w fun v w' => v = .slice A (fw al).length c ∧ w' = w := by
  apply S11_calls
  refine ⟨fun s w' => ∃ i : Nat, s.1 = (i : Int) ∧ i ≤ al.length ∧ i ≤ 9 ∧ (∀ j x, j < i → al[j]? = some x → small x = true) ∧ w' = w, fun s _ => al.length - s.1.toNat, ⟨0, rfl, Nat.zero_le _, by decide, fun j x hj => absurd hj (Nat.not_lt_zero j), rfl⟩, ?_⟩
  rintro J ⟨i', ⟨⟩⟩ w ⟨i, hi, hil, hi9, hall, rfl⟩
  dsimp only at hi ⊢
  subst hi
  refine cD (fun hlt => ?_) (fun hlt => ?_)
  · have hlt' : i < al.length := by have : (i : Int) < (al.length : Int) := hlt; omega
    have hx : al[i]? = some al[i] := List.getElem?_eq_getElem hlt'
    generalize al[i] = x at hx
    have stop : (i = 9 ∨ small x = false) → S11_k2 A al.length c (i : Int) ((al.length : Nat) : Int) (i : Int) true w (fun v w' => v = .slice A (fw al).length c ∧ w' = w) (fun s' w'' => (∃ i : Nat, s'.1 = (i : Int) ∧ i ≤ al.length ∧ i ≤ 9 ∧ (∀ j x, j < i → al[j]? = some x → small x = true) ∧ w'' = w) ∧ al.length - s'.1.toNat < al.length - (i : Int).toNat) := by
      intro hs
      have e := fw_at hall hi9 hil (by rcases hs with h | h; exact .inl h; exact .inr (.inr ⟨x, hx, h⟩))
      refine ⟨by omega, by omega, ?_, rfl⟩
      rw [slAddr_zero, e, List.length_take, Nat.min_eq_left hil, Int.toNat_natCast, Nat.sub_zero, Nat.sub_zero]
    refine cD (fun h9 => stop (.inl (by omega))) (fun h9 => ?_)
    obtain ⟨a, ha, hb, hq⟩ := h i x hx
    have cells : ∀ j, w.cell? ((a.add (i * 2)).add j) = w0.cell? ((a.add (i * 2)).add j) := fun j => g.cell (by rw [add_block, add_block]; omega) (by rw [add_block, add_block]; simp only [from1]; omega)
    have c0 := hq.1 0 _ rfl
    rw [← cells 0, add_zero'] at c0
    have c1 := hq.1 1 _ rfl
    rw [← cells 1] at c1
    refine ⟨a, ha, by omega, by omega, _, _, _, by rw [Int.toNat_natCast]; exact c0, cD (fun e => stop (.inr (by simp [small]; omega))) (fun e => ⟨a, ha, by omega, by omega, _, _, _, by rw [Int.toNat_natCast]; exact c1, ?_⟩)⟩
    by_cases e2 : x.n.length ≤ 40
    · rw [decide_eq_false (by omega : ¬ (40 : Int) < ((x.n.length : Nat) : Int))]
      refine cF rfl ?_
      rw [nextI (by omega)]
      refine ⟨⟨i + 1, rfl, by omega, by omega, fun j y hj hy => ?_, rfl⟩, by dsimp only; omega⟩
      by_cases ej : j = i
      · subst ej; rw [hx] at hy; cases hy; simp [small]; omega
      · exact hall j y (by omega) hy
    · rw [decide_eq_true (by omega : (40 : Int) < ((x.n.length : Nat) : Int))]
      exact stop (.inr (by simp [small]; omega))
  · have hge : i = al.length := by have : ¬ (i : Int) < (al.length : Int) := hlt; omega
    have e := fw_at hall hi9 hil (.inr (.inl hge))
    rw [e, hge, List.take_length]
    exact ⟨rfl, rfl⟩
end Go.Proofs
