import Derived.Test.YthmipkbcapmmcaaNetE
import Derived.Test.YthmipkbcapmmcaaOpn
set_option linter.unusedVariables false
namespace Go.Proofs
open Go Go.Eng
/-! ### The acts that came in -/
abbrev Act := Int × List UInt8 × Int
def ActQ (w : World) (B : Nat) (a : Addr) (x : Act) : Prop :=
  ∃ (A' : Option Addr) (c' : Nat), w.cell? a = some (.int .u8 x.1) ∧ w.cell? (a.add 1) = some (.slice A' x.2.1.length c') ∧ w.cell? (a.add 2) = some (.int .i64 x.2.2) ∧
    Rd w (fun k => k < B) A' (bvs x.2.1) ∧ 0 ≤ x.1 ∧ x.1 < 256 ∧ IntKind.i64.min ≤ x.2.2 ∧ x.2.2 ≤ IntKind.i64.max
theorem ActQ.fr {w w' : World} {B : Nat} {a : Addr} {x : Act} (h : ActQ w B a x) (hB : B ≤ w.heap.size) (hb : a.block < B) (g : Bel B w w') : ActQ w' B a x := by
  obtain ⟨A', c', h1, h2, h3, h4, h5⟩ := h
  have hc : ∀ j, w'.cell? (a.add j) = w.cell? (a.add j) := fun j => g.cell (by rw [add_block]; omega) (by rw [add_block]; simp only [from1]; omega)
  refine ⟨A', c', ?_, by rw [hc]; exact h2, by rw [hc]; exact h3, h4.fr g fun k _ hk => by simp only [from1]; omega, h5⟩
  have := hc 0
  rw [add_zero'] at this
  rw [this]; exact h1
theorem RowAt.take {α : Type} {B n : Nat} {Q : Addr → α → Prop} {A : Option Addr} {xs : List α} (h : RowAt B n Q A xs) (m : Nat) : RowAt B n Q A (xs.take m) := fun i z hz => by
  rw [List.getElem?_take] at hz
  split at hz
  · exact h i z hz
  · cases hz
theorem few_ok {w : World} {B : Nat} {A : Option Addr} {l c : Nat} {al : List Act} (h : RowAt B 3 (ActQ w B) A al) (hl : al.length = l) (hc : l ≤ c) :
    Ret Try.prog 10 [.slice A l c] w fun v w' => w' = w ∧ ∃ (l' c' : Nat) (bs : List Act), v = .slice A l' c' ∧ bs.length = l' ∧ l' ≤ 100 ∧ RowAt B 3 (ActQ w B) A bs ∧ ∀ x ∈ bs, x.2.1.length ≤ 10000 := by
  apply S10_calls
  refine ⟨fun s w' => w' = w ∧ 0 ≤ s.1 ∧ s.1 ≤ 10000 ∧ ∃ n : Nat, s.2.1 = (n : Int) ∧ n ≤ l ∧ n ≤ 100 ∧ ∀ x ∈ al.take n, x.2.1.length ≤ 10000, fun s _ => l - s.2.1.toNat, ⟨rfl, by simp, by simp, 0, rfl, Nat.zero_le _, Nat.zero_le _, by simp⟩, ?_⟩
  rintro J ⟨left, i, ⟨⟩⟩ w' ⟨e, h0, h1, n, hn, hnl, hn1, hx⟩
  subst e
  dsimp only at h0 h1 hn
  subst hn
  have fin : ∀ m : Nat, m = n → w' = w' ∧ ∃ (l' c' : Nat) (bs : List Act), (Value.slice (slAddr A c 0 3) (Int.toNat (n : Int) - 0) (c - 0)) = .slice A l' c' ∧ bs.length = l' ∧ l' ≤ 100 ∧ RowAt B 3 (ActQ w' B) A bs ∧ ∀ x ∈ bs, x.2.1.length ≤ 10000 := by
    intro _ _
    refine ⟨rfl, n, c, al.take n, by rw [slAddr_zero]; simp, by simp; omega, hn1, RowAt.take h n, hx⟩
  refine cD (fun hi => ?_) (fun hi => ?_)
  · have hi' : n < l := by simp at hi; omega
    obtain ⟨a, hA, hab, hq⟩ := h n al[n] (List.getElem?_eq_getElem (by omega))
    have hqq := hq
    obtain ⟨A', c', _, hcell, _⟩ := hq
    refine cD (fun hh => ?_) (fun hh => ?_)
    · refine cT rfl ⟨by simp, by simp; omega, fin n rfl⟩
    · dsimp only at hh
      refine ⟨a, hA, by simp, by simp; omega, A', _, c', by simpa using hcell, ?_⟩
      refine cD (fun hg => ?_) (fun hg => ?_)
      · exact ⟨by simp, by simp; omega, fin n rfl⟩
      · dsimp only at hg
        refine ⟨a, hA, by simp, by simp; omega, A', _, c', by simpa using hcell, ?_⟩
        rw [IntWalk.i64_in (left - _) (by omega), IntWalk.i64_in ((n : Int) + 1) (by omega)]
        refine ⟨⟨rfl, by simp; omega, by simp; omega, n + 1, by simp, by omega, by omega, fun x hx' => ?_⟩, ?_⟩
        · rw [List.take_add_one, List.getElem?_eq_getElem (by omega)] at hx'
          simp only [Option.toList, List.mem_append, List.mem_singleton] at hx'
          rcases hx' with hx' | rfl
          · exact hx x hx'
          · omega
        · simp; omega
  · have hi' : n = l := by simp at hi; omega
    subst hi'
    exact ⟨rfl, n, c, al, rfl, hl, hn1, h, fun x hx' => hx x (by rw [List.take_of_length_le (by omega)]; exact hx')⟩
end Go.Proofs
