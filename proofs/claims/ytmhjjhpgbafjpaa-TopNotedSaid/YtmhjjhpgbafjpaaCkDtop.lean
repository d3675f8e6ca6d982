/- The reference's check sum, frames and scans: contracts. -/
import Derived.Test.YtmhjjhpgbafjpaaCkCtop
set_option linter.unusedVariables false
namespace Go.Proofs
open Go Go.Eng
theorem msb_nat (q : W16) : (IntKind.u16.wrap (Int.tdiv (q.toNat : Int) 32768) = 1) ↔ q.msb = true := by
  have h := q.isLt
  rw [Int.tdiv_eq_ediv_of_nonneg (by omega), IntWalk.u16_in _ (by omega), BitVec.msb_eq_decide, decide_eq_true_eq]
  omega
theorem dbl_nat (q : W16) : IntKind.u16.wrap ((q.toNat : Int) * 2) = ((q <<< 1).toNat : Int) := by
  rw [show (q.toNat : Int) * 2 = ((q.toNat * 2 : Nat) : Int) by omega, wrap16, BitVec.toNat_shiftLeft, Nat.shiftLeft_eq]
section
variable {w : World} {ok : Nat → Prop} {A : Option Addr} {c : Nat} {xs : Bs}
theorem openB_eq (xs : Bs) (h4 : 4 ≤ xs.length) : openB xs = if (inner xs xs.length).length ≤ 1000 ∧ framed (inner xs xs.length) = xs then some (inner xs xs.length) else none := by
  split
  · rename_i h
    exact openB_some.2 ⟨h.1, h.2.symm⟩
  · rename_i h
    cases e : openB xs with
    | none => rfl
    | some ys =>
      obtain ⟨h1, h2⟩ := openB_some.1 e
      have e1 : inner xs xs.length = ys := by
        have := inner_frame (ys := ys) (rest := [])
        rw [List.append_nil, ← framed_length, ← h2] at this
        exact this
      exact absurd (by rw [e1]; exact ⟨h1, h2.symm⟩) h
theorem w2_two (a b : UInt8) : w2 [a, b] = 256 * a.toNat + b.toNat := by
  unfold w2
  have e : up8 [a, b] = by8 a ++ by8 b := by simp [up8]
  rw [e, vl_append, by8_length]
  unfold by8
  have ha := a.toNat_lt
  have hb := b.toNat_lt
  rw [vl_nb, vl_nb, Nat.mod_eq_of_lt (by omega), Nat.mod_eq_of_lt (by omega)]
  omega
/-- A scan's step, as the reference takes it. -/
theorem ref_step {t : Bs} (h4 : 4 ≤ t.length) (hn : w2 (t.take 2) + 4 ≤ t.length) : (openB (t.take (w2 (t.take 2) + 4)) = none ∧ sizeB t = 0) ∨ (openB (t.take (w2 (t.take 2) + 4)) = some (inner t (sizeB t)) ∧ sizeB t = w2 (t.take 2) + 4) := by
  by_cases hz : sizeB t = 0
  · left
    refine ⟨?_, hz⟩
    cases e : openB (t.take (w2 (t.take 2) + 4)) with
    | none => rfl
    | some ys =>
      obtain ⟨h1, h2⟩ := openB_some.1 e
      have e2 : t = framed ys ++ t.drop (w2 (t.take 2) + 4) := by rw [← h2, List.take_append_drop]
      have e3 := sizeB_frame h1 (t.drop (w2 (t.take 2) + 4))
      rw [← e2] at e3
      omega
  · right
    have hs : sizeB t = w2 (t.take 2) + 4 := by
      have hz' := hz
      unfold sizeB at hz' ⊢
      rw [if_neg (by omega)] at hz' ⊢
      split at hz'
      · exact absurd rfl hz'
      · rename_i h1
        rw [if_neg h1]
        split at hz'
        · rename_i h2; rw [if_pos h2]
        · exact absurd rfl hz'
    obtain ⟨ys, y1, y2, y3, y4, y5⟩ := sizeB_some hz
    refine ⟨?_, hs⟩
    rw [openB_some]
    rw [y4]
    refine ⟨y1, ?_⟩
    rw [← hs, y2]
    have e := congrArg (List.take (ys.length + 4)) y3
    rw [List.take_append_of_le_length (by rw [framed_length]; exact Nat.le_refl _), List.take_of_length_le (l := framed ys) (by rw [framed_length]; exact Nat.le_refl _)] at e
    exact e
end
/-- Rows of rows of bytes, to be read. -/
def RS (w : World) (A : Option Addr) (xss : List Bs) : Prop := ∃ vs, Rd w (fun _ => True) A vs ∧ Bss w (fun _ => True) vs xss
theorem Rows.rs {B : Nat} {X : Nat → Prop} {w : World} {A : Option Addr} {c : Nat} {xss : List Bs} (h : Rows B X w A c xss) : RS w A xss := by
  obtain ⟨o1, o2, vs, h1, h2, _⟩ := h
  exact ⟨vs, h1.rd.mono fun _ _ _ => trivial, h2.mono fun _ _ _ => trivial⟩
theorem RS.fr0 {w w' : World} {A : Option Addr} {xss : List Bs} (h : RS w A xss) (f : Fr none1 w w') : RS w' A xss := by
  obtain ⟨vs, h1, h2⟩ := h
  exact ⟨vs, h1.fr f fun _ _ _ h => h, h2.fr f fun _ _ _ h => h⟩
theorem RS.at {w : World} {A : Option Addr} {xss : List Bs} (h : RS w A xss) {i : Nat} {ys : Bs} (hi : xss[i]? = some ys) : ∃ a B c, A = some a ∧ w.cell? (a.add (Int.toNat (i : Int) * 1)) = some (.slice B ys.length c) ∧ Rd w (fun _ => True) B (bvs ys) := by
  obtain ⟨vs, h1, h2⟩ := h
  obtain ⟨B, c, k1, _, k2⟩ := h2.2 i ys hi
  obtain ⟨a, rfl, _, hc⟩ := h1.at k1
  exact ⟨a, B, c, rfl, by rw [Int.toNat_natCast, Nat.mul_one]; exact hc, k2⟩
end Go.Proofs
