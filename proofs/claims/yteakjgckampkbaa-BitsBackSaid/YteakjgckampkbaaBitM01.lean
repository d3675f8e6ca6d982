/- The law of what is left, joined. -/
import Derived.Test.YteakjgckampkbaaBitL01
set_option linter.unusedVariables false
namespace Go.Proofs
open Go Go.Eng
abbrev Tk := Bool × Int
def inI (x : Int) : Prop := IntKind.i64.min ≤ x ∧ x ≤ IntKind.i64.max
def TakeQ (w : World) (a : Addr) (x : Tk) : Prop := w.cell? a = some (.bool x.1) ∧ w.cell? (a.add 1) = some (.int .i64 x.2) ∧ inI x.2
theorem TakeQ.fr {w w' : World} {B : Nat} {a : Addr} {x : Tk} (h : TakeQ w a x) (hB : B ≤ w.heap.size) (hb : a.block < B) (g : Bel B w w') : TakeQ w' a x := by
  obtain ⟨h1, h2, h3⟩ := h
  have hc : ∀ j, w'.cell? (a.add j) = w.cell? (a.add j) := fun j => g.cell (by rw [add_block]; omega) (by rw [add_block]; simp only [from1]; omega)
  refine ⟨?_, by rw [hc]; exact h2, h3⟩
  have := hc 0
  rw [add_zero'] at this
  rw [this]; exact h1
section
variable {W : World}
theorem bitsLeft_ok {A0 : Option Addr} {c0 : Nat} {ys : List UInt8} (hr : Rd W (fun k => k < W.heap.size) A0 (bvs ys)) (hc : ys.length ≤ c0) {A : Option Addr} {l c : Nat} {tl : List Tk} (h : RowAt W.heap.size 2 (TakeQ W) A tl) (hl : tl.length = l) (hm : l ≤ maxLen) :
    Ret Try.prog 9 [.slice A0 ys.length c0, .slice A l c] W (Done W) := by
  simp only [maxLen] at hm
  apply S9_calls
  refine (shown_ok W).use ?_
  rintro v w1 ⟨rfl, f1⟩
  refine ⟨_, rfl, ?_⟩
  obtain ⟨m, hm0, hm'⟩ := upto_n ys.length 1000
  have hm2 : (if (1000 : Int) < ((ys.length : Nat) : Int) then (1000 : Int) else ((ys.length : Nat) : Int)) = (m : Int) := hm0
  rw [hm2, Int.toNat_natCast, Nat.sub_zero, slAddr_zero]
  have htl : (ys.take m).length = m := by rw [List.length_take]; omega
  have hrd : Rd W (fun k => k < W.heap.size) A0 (bvs (ys.take m)) := by
    have := hr.take m
    unfold bvs at this ⊢
    rwa [← List.map_take] at this
  have hm1 : m ≤ 1000 := by omega
  generalize ys.take m = xs at htl hrd
  subst htl
  refine ⟨by omega, by omega, ?_⟩
  refine (rnewB (B := W.heap.size) (c := c0 - 0) (hrd.fr f1 fun _ _ _ h => h) (by omega) f1.size).use ?_
  rintro v w2 ⟨b, rfl, h2, f2⟩
  refine ⟨_, rfl, cF rfl ?_⟩
  refine (leftB h2).use ?_
  rintro v w3 ⟨rfl, h3, f3⟩
  refine ⟨_, rfl, ?_⟩
  rw [IntWalk.i64_in (8 * (xs.length : Int)) (by omega)]
  refine cF (by simp) ?_
  have g3 : Bel W.heap.size W w3 := f1.bel0.trans' (f2.bel0.trans' f3.bel0)
  refine ⟨fun s w' => ∃ n : Nat, s.2.1 = (n : Int) ∧ n ≤ l ∧ n ≤ 300 ∧ LeftI W b xs s.1 w', fun s _ => l - s.2.1.toNat, ⟨0, rfl, Nat.zero_le _, by decide, 0, 0, h3, by simp, g3⟩, ?_⟩
  rintro J ⟨ok, i, ⟨⟩⟩ w4 ⟨n, hi, hn, hn3, p, E, h4, ho, g4⟩
  dsimp only at hi ho ⊢
  subst hi
  have endk : ∀ w5, LeftI W b xs ok w5 → S9_k4 true (some ⟨b, 0, none⟩) ok w5 (Done W) := by
    rintro w5 ⟨p, E, h5, ho, g5⟩
    refine cT rfl (cB (fun _ => ⟨rfl, g5.top⟩) fun h => ?_)
    refine (endB h5).use ?_
    rintro v w6 ⟨rfl, _, f6⟩
    have hE : E ≠ 0 := fun e => by have := ho.2 e; rw [h] at this; cases this
    refine ⟨_, rfl, ?_, (g5.trans' f6.bel0).top⟩
    unfold endV
    rw [if_pos hE]
    simp [hE]
  refine cD (fun hlt => ?_) (fun hlt => ?_)
  · have hx : tl[n]? = some tl[n] := List.getElem?_eq_getElem (by omega)
    obtain ⟨a, rfl, hab, hq⟩ := h n _ hx
    generalize tl[n] = x at hx hq
    obtain ⟨q1, q2, q3⟩ := hq.fr (Nat.le_refl _) (by rw [add_block]; exact hab) g4
    refine ⟨a, rfl, by omega, by omega, _, by rw [Int.toNat_natCast]; exact q1, _, by rw [Int.toNat_natCast]; exact q2, ?_⟩
    obtain ⟨p1, p2, p3, p4, b5, f5⟩ := cp2 w4 48 (.bool false) (.int .i64 0) (.bool x.1) (.int .i64 x.2)
    refine ⟨p1, p2, p3, p4, ?_⟩
    generalize World.setCell _ _ _ = w5 at b5 f5 ⊢
    have h5 := h4.fr0 f5
    have g5 := g4.trans' f5.bel0
    refine cD (fun h3 => endk w5 ⟨p, E, h5, ho, g5⟩) (fun h3 => ?_)
    have hbt : b ≠ w4.heap.size := by have := h4.1.lt; omega
    have hWs := g4.size
    generalize w4.heap.size = t at b5 hbt hWs ⊢
    refine (leftB h5).use ?_
    rintro v w6 ⟨rfl, h6, f6⟩
    have b6 := b5.fr f6 (fun h => h)
    have g6 := g5.trans' f6.bel0
    have nx : ∀ w' o', LeftI W b xs o' w' → (∃ n_1 : Nat, (n : Int) + 1 = (n_1 : Int) ∧ n_1 ≤ l ∧ n_1 ≤ 300 ∧ LeftI W b xs o' w') ∧ l - ((n : Int) + 1).toNat < l - (n : Int).toNat := fun w' o' hl => ⟨⟨n + 1, by omega, by omega, by omega, hl⟩, by omega⟩
    refine ⟨_, rfl, _, (b6.cell 0).trans rfl, cB (fun hx1 => ?_) (fun hx1 => ?_)⟩
    · exact left_count h6 g6 ho (by omega) fun w' o' hl => nx w' o' hl
    · rw [hx1] at b6
      have cc : ∀ {w'}, Blk w' t 48 [.bool false, .int .i64 x.2] → w'.cell? ((⟨t, 0, none⟩ : Addr).add 1) = some (.int .i64 x.2) := fun b => by rw [add_g]; exact (b.cell 1).trans rfl
      refine ⟨_, cc b6, ?_⟩
      refine (get_ok h6.1 x.2).use ?_
      rintro v w7 ⟨rfl, h7, f7⟩
      have b7 := b6.fr f7 (fun e => hbt e.symm)
      have h7' : RdB W.heap.size w7 b xs _ _ := ⟨h7, Nat.le_trans h6.2 f7.size⟩
      refine ⟨_, rfl, ?_⟩
      have k12 : ∀ o' : Bool, (o' = true ↔ getE ⟨up8 xs, p, E⟩ x.2 = 0) → S9_k12 true (some ⟨b, 0, none⟩) o' ⟨t, 0, none⟩ (8 * (xs.length : Int) - (p : Int)) (some a) l c (l : Int) (n : Int) w7 (Done W)
          (fun s' w'' => (∃ n : Nat, s'.2.1 = (n : Int) ∧ n ≤ l ∧ n ≤ 300 ∧ LeftI W b xs s'.1 w'') ∧ l - s'.2.1.toNat < l - (n : Int).toNat) := fun o' ho' =>
        left_k12 (w0 := w6) q3 g6 h7' h4.1.2.1 (h6.bel f7) b7 ho' (by omega) fun w' hl => nx w' o' hl
      have hU := up8_length xs
      refine cB (fun hok => ?_) (fun hok => ?_)
      · have hE := ho.1 hok
        subst hE
        have hge : getE ⟨up8 xs, p, 0⟩ x.2 = if x.2 < 0 ∨ 64 < x.2 then 1 else if 8 * (xs.length : Int) - (p : Int) < x.2 then 10 else 0 := by
          unfold getE Rs.left
          simp only [hU]
          rw [if_neg (by simp), show ((8 * xs.length : Nat) : Int) = 8 * (xs.length : Int) by omega]
        refine ⟨_, cc b7, cD (fun c1 => ⟨_, cc b7, cD (fun c2 => ⟨_, cc b7, k12 _ ?_⟩) fun c2 => k12 _ ?_⟩) fun c1 => k12 _ ?_⟩
        · rw [hge, if_neg (by omega)]
          by_cases c3 : 8 * (xs.length : Int) - (p : Int) < x.2
          · rw [if_pos c3]; simp; omega
          · rw [if_neg c3]; simp; omega
        · rw [hge, if_pos (by omega)]; simp
        · rw [hge, if_pos (by omega)]; simp
      · have hE : E ≠ 0 := fun e => by have := ho.2 e; rw [hok] at this; cases this
        refine k12 _ ?_
        unfold getE
        rw [if_pos hE]
        simp [hE]
  · exact endk w4 ⟨p, E, h4, ho, g4⟩
end
end Go.Proofs
