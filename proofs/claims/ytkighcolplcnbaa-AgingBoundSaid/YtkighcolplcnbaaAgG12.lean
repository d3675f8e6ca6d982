/- Queues that age: the examples; the acts that came in. -/
import Derived.Test.YtkighcolplcnbaaAgF12
set_option linter.unusedVariables false
namespace Go.Proofs
open Go Go.Eng
def ints (l : List Int) : List Value := l.map (.int .i64)
theorem lit_at {w : World} {b : Nat} {l : List Int} (h : Blk w b 3 (ints l)) {i : Nat} {x : Int} (hx : l[i]? = some x) : w.cell? ((⟨b, 0, none⟩ : Addr).add (Int.toNat (i : Int) * 1)) = some (.int .i64 x) := by
  rw [Int.toNat_natCast, Nat.mul_one, add_g, h.cell, ints, List.getElem?_map, hx]; rfl
theorem ex_first : nxB ex1 = true ∧ nxI ex1 = 1 := by decide +kernel
theorem ex_rest : ∀ k : Fin 5, nxB (takes ex2 k.val) = true ∧ some (nxI (takes ex2 k.val)) = [2, 4, 3, 5, 0][k.val]? := by decide +kernel
theorem shown_ok (W : World) : Ret Try.prog 9 [] W fun v w' => v = .bool true ∧ Fr none1 W w' := by
  apply S9_calls
  refine (QK.new (K := fun _ => False) (B := W.heap.size) (n := 1) (by decide) (Nat.le_refl _) (fun _ h => h.elim)).use ?_
  rintro v w1 ⟨q, rfl, h1, f1, hq⟩
  refine ⟨_, _, rfl, cF rfl (cF rfl ?_)⟩
  have a1 : Fr none1 w1 (w1.alloc (.cells ⟨ints [0, 5, 5]⟩ 3)) := Fr.alloc _ _
  have b1 := Blk.new w1 3 (ints [0, 5, 5])
  have h2 := h1.grow a1 fun _ _ h => h.elim
  have hp1 := b1.lt
  unfold S9_k1
  generalize hw : w1.alloc (.cells ⟨[.int .i64 0, .int .i64 5, .int .i64 5]⟩ 3) = w2
  have hw' : w1.alloc (.cells ⟨ints [0, 5, 5]⟩ 3) = w2 := hw
  rw [hw'] at a1 b1 h2 hp1
  clear hw hw'
  have g2 : Bel W.heap.size W w2 := f1.bel0.trans' a1.bel0
  refine ⟨fun s w' => ∃ i : Nat, s.1 = (i : Int) ∧ i ≤ 3 ∧ QK (fun k => False ∨ (w1.heap.size ≤ k ∧ k < w2.heap.size)) W.heap.size w' q (adds ⟨[], 0, 1, 0⟩ ([0, 5, 5].take i)) ∧ Blk w' w1.heap.size 3 (ints [0, 5, 5]) ∧ Bel W.heap.size W w', fun s _ => 3 - s.1.toNat, ⟨0, rfl, by decide, h2, b1, g2⟩, ?_⟩
  rintro J ⟨i', ⟨⟩⟩ w3 ⟨i, hi, hi3, h3, b3, g3⟩
  dsimp only at hi ⊢
  subst hi
  refine cD (fun hlt => ?_) (fun hlt => ?_)
  · have hlt' : i < 3 := by have : (i : Int) < ((3 : Nat) : Int) := hlt; omega
    have hx : ([0, 5, 5] : List Int)[i]? = some ([0, 5, 5] : List Int)[i] := List.getElem?_eq_getElem (by simpa using hlt')
    refine ⟨⟨w1.heap.size, 0, none⟩, rfl, by omega, by omega, _, lit_at b3 hx, ?_⟩
    have hn := (adds_n ⟨[], 0, 1, 0⟩ (([0, 5, 5] : List Int).take i)).1
    rw [List.length_take] at hn
    refine (h3.add _ (by simp only at hn; omega)).use ?_
    rintro v w4 ⟨rfl, h4, f4⟩
    rw [← adds_succ _ hx] at h4
    rw [IntWalk.i64_in _ (by omega)]
    exact ⟨_, _, rfl, ⟨i + 1, rfl, by omega, h4, b3.fr f4 fun h => h.2 (.inr ⟨Nat.le_refl _, hp1⟩), g3.trans' (offK_bel f4)⟩, by dsimp only; omega⟩
  have e3 : i = 3 := by have : ¬ (i : Int) < ((3 : Nat) : Int) := hlt; omega
  subst e3
  have hQ1 : adds ⟨[], 0, 1, 0⟩ (([0, 5, 5] : List Int).take 3) = ex1 := rfl
  rw [hQ1] at h3
  refine (h3.take (by decide +kernel)).use ?_
  rintro v w4 ⟨rfl, h4, f4⟩
  rw [ex_first.1, ex_first.2, if_pos rfl]
  refine ⟨_, _, rfl, ?_⟩
  have g4 := g3.trans' (offK_bel f4)
  have a5 : Fr none1 w4 (w4.alloc (.cells ⟨ints [4, 5, 5, 5, 5, 5]⟩ 3)) := Fr.alloc _ _
  have b5 := Blk.new w4 3 (ints [4, 5, 5, 5, 5, 5])
  have h5 := h4.grow a5 fun _ _ h => h.elim
  have hp5 := b5.lt
  generalize hw : w4.alloc (.cells ⟨[.int .i64 4, .int .i64 5, .int .i64 5, .int .i64 5, .int .i64 5, .int .i64 5]⟩ 3) = w5
  have hw' : w4.alloc (.cells ⟨ints [4, 5, 5, 5, 5, 5]⟩ 3) = w5 := hw
  rw [hw'] at a5 b5 h5 hp5
  clear hw hw'
  obtain ⟨K5, hK5⟩ : ∃ K5 : Nat → Prop, K5 = fun k => (False ∨ (w1.heap.size ≤ k ∧ k < w2.heap.size)) ∨ (w4.heap.size ≤ k ∧ k < w5.heap.size) := ⟨_, rfl⟩
  rw [← hK5] at h5
  have hk5 : K5 w4.heap.size := by rw [hK5]; exact .inr ⟨Nat.le_refl _, hp5⟩
  clear hK5
  have g5 := g4.trans' a5.bel0
  refine ⟨fun s w' => ∃ i : Nat, s.1 = (i : Int) ∧ i ≤ 6 ∧ QK K5 W.heap.size w' q (adds (tkQ ex1) ([4, 5, 5, 5, 5, 5].take i)) ∧ Blk w' w4.heap.size 3 (ints [4, 5, 5, 5, 5, 5]) ∧ Bel W.heap.size W w', fun s _ => 6 - s.1.toNat, ⟨0, rfl, by decide, h5, b5, g5⟩, ?_⟩
  rintro J2 ⟨i', ⟨⟩⟩ w6 ⟨i, hi, hi6, h6, b6, g6⟩
  dsimp only at hi ⊢
  subst hi
  refine cD (fun hlt => ?_) (fun hlt => ?_)
  · have hlt' : i < 6 := by have : (i : Int) < ((6 : Nat) : Int) := hlt; omega
    have hx : ([4, 5, 5, 5, 5, 5] : List Int)[i]? = some ([4, 5, 5, 5, 5, 5] : List Int)[i] := List.getElem?_eq_getElem (by simpa using hlt')
    refine ⟨⟨w4.heap.size, 0, none⟩, rfl, by omega, by omega, _, lit_at b6 hx, ?_⟩
    have hn := (adds_n (tkQ ex1) (([4, 5, 5, 5, 5, 5] : List Int).take i)).1
    rw [List.length_take] at hn
    have hn1 : (tkQ ex1).n ≤ 3 := by decide +kernel
    refine (h6.add _ (by omega)).use ?_
    rintro v w7 ⟨rfl, h7, f7⟩
    rw [← adds_succ _ hx] at h7
    rw [IntWalk.i64_in _ (by omega)]
    exact ⟨_, _, rfl, ⟨i + 1, rfl, by omega, h7, b6.fr f7 fun h => h.2 hk5, g6.trans' (offK_bel f7)⟩, by dsimp only; omega⟩
  have e6 : i = 6 := by have : ¬ (i : Int) < ((6 : Nat) : Int) := hlt; omega
  subst e6
  have hQ2 : adds (tkQ ex1) (([4, 5, 5, 5, 5, 5] : List Int).take 6) = ex2 := rfl
  rw [hQ2] at h6
  have a8 : Fr none1 w6 (w6.alloc (.cells ⟨ints [2, 4, 3, 5, 0]⟩ 3)) := Fr.alloc _ _
  have b8 := Blk.new w6 3 (ints [2, 4, 3, 5, 0])
  have h8 := h6.grow a8 fun _ _ h => h.elim
  have hp8 := b8.lt
  unfold S9_k7
  generalize hw : w6.alloc (.cells ⟨[.int .i64 2, .int .i64 4, .int .i64 3, .int .i64 5, .int .i64 0]⟩ 3) = w8
  have hw' : w6.alloc (.cells ⟨ints [2, 4, 3, 5, 0]⟩ 3) = w8 := hw
  rw [hw'] at a8 b8 h8 hp8
  clear hw hw'
  obtain ⟨K8, hK8⟩ : ∃ K8 : Nat → Prop, K8 = fun k => K5 k ∨ (w6.heap.size ≤ k ∧ k < w8.heap.size) := ⟨_, rfl⟩
  rw [← hK8] at h8
  have hk8 : K8 w6.heap.size := by rw [hK8]; exact .inr ⟨Nat.le_refl _, hp8⟩
  clear hK8
  have g8 := g6.trans' a8.bel0
  have hb2 : ex2.b ≤ 1 := by decide +kernel
  refine ⟨fun s w' => ∃ i : Nat, s.1 = (i : Int) ∧ i ≤ 5 ∧ QK K8 W.heap.size w' q (takes ex2 i) ∧ Blk w' w6.heap.size 3 (ints [2, 4, 3, 5, 0]) ∧ Bel W.heap.size W w', fun s _ => 5 - s.1.toNat, ⟨0, rfl, by decide, h8, b8, g8⟩, ?_⟩
  rintro J3 ⟨i', ⟨⟩⟩ w9 ⟨i, hi, hi5, h9, b9, g9⟩
  dsimp only at hi ⊢
  subst hi
  refine cD (fun hlt => ?_) (fun hlt => ⟨by rw [decide_eq_true rfl], g9.top⟩)
  have hlt' : i < 5 := by have : (i : Int) < ((5 : Nat) : Int) := hlt; omega
  obtain ⟨e1, e2⟩ := ex_rest ⟨i, hlt'⟩
  have hx : ([2, 4, 3, 5, 0] : List Int)[i]? = some (nxI (takes ex2 i)) := e2.symm
  have hb := takes_b ex2 i
  refine ⟨⟨w6.heap.size, 0, none⟩, rfl, by omega, by omega, _, lit_at b9 hx, ?_⟩
  refine (h9.take (by omega)).use ?_
  rintro v w10 ⟨rfl, h10, f10⟩
  have e1' : nxB (takes ex2 i) = true := e1
  rw [e1', if_pos rfl]
  refine ⟨_, _, rfl, cF (by simp) (cF rfl ?_)⟩
  rw [IntWalk.i64_in _ (by omega)]
  exact ⟨⟨i + 1, rfl, by omega, h10, b9.fr f10 fun h => h.2 hk8, g9.trans' (offK_bel f10)⟩, by dsimp only; omega⟩
/-! ### The acts that came in -/
abbrev Act := Int × Int
def acell (x : Act) : List Value := [.int .u8 x.1, .int .i64 x.2]
def ActQ (w : World) (a : Addr) (x : Act) : Prop := (∀ j v, (acell x)[j]? = some v → w.cell? (a.add j) = some v) ∧ 0 ≤ x.1 ∧ x.1 < 256
theorem few_ok {w : World} {A : Option Addr} {c : Nat} {al : List Act} (hc : al.length ≤ c) (hm : c ≤ 9223372036854775807) : Ret Try.prog 11 [.slice A al.length c] w fun v w' => v = .slice A (al.take 300).length c ∧ w' = w := by
  apply S11_calls
  have e : (if 300 < ((al.length : Nat) : Int) then 300 else ((al.length : Nat) : Int)) = (((al.take 300).length : Nat) : Int) := by
    rw [List.length_take]
    split <;> omega
  unfold S11
  rw [e, Int.toNat_natCast, slAddr_zero, Nat.sub_zero, Nat.sub_zero]
  have := List.length_take_le 300 al
  have h2 : (al.take 300).length ≤ al.length := by rw [List.length_take]; omega
  exact ⟨by omega, by omega, rfl, rfl⟩
end Go.Proofs
