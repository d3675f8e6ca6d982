/- Acts that were handed in. -/
import Derived.Test.YthjekadmkconnaaJnC16
set_option linter.unusedVariables false
namespace Go.Proofs
open Go Go.Eng
/-! ### The acts that came in -/
abbrev Act := Int × List UInt8 × Int
def ActQ (w : World) (B : Nat) (a : Addr) (x : Act) : Prop :=
  ∃ (A' : Option Addr) (c' : Nat), w.cell? a = some (.int .u8 x.1) ∧ w.cell? (a.add 1) = some (.slice A' x.2.1.length c') ∧ w.cell? (a.add 2) = some (.int .i64 x.2.2) ∧
    Rd w (fun k => k < B) A' (bvs x.2.1) ∧ 0 ≤ x.1 ∧ x.1 < 256 ∧ IntKind.i64.min ≤ x.2.2 ∧ x.2.2 ≤ IntKind.i64.max ∧ x.2.1.length ≤ c'
theorem ActQ.fr {w w' : World} {B : Nat} {a : Addr} {x : Act} (h : ActQ w B a x) (hB : B ≤ w.heap.size) (hb : a.block < B) (g : Bel B w w') : ActQ w' B a x := by
  obtain ⟨A', c', h1, h2, h3, h4, h5⟩ := h
  have hc : ∀ j, w'.cell? (a.add j) = w.cell? (a.add j) := fun j => g.cell (by rw [add_block]; omega) (by rw [add_block]; simp only [from1]; omega)
  refine ⟨A', c', ?_, by rw [hc]; exact h2, by rw [hc]; exact h3, h4.fr g fun k _ hk => by simp only [from1]; omega, h5⟩
  have := hc 0
  rw [add_zero'] at this
  rw [this]; exact h1
theorem few_ok {w : World} {B : Nat} {A : Option Addr} {l c : Nat} {al : List Act} (h : RowAt B 3 (ActQ w B) A al) (hl : al.length = l) (hc : l ≤ c) :
    Ret Try.prog 17 [.slice A l c] w fun v w' => w' = w ∧ ∃ (l' c' : Nat) (bs : List Act), v = .slice A l' c' ∧ bs.length = l' ∧ l' ≤ 60 ∧ RowAt B 3 (ActQ w B) A bs ∧ ∀ x ∈ bs, x.2.1.length ≤ 10000 := by
  apply S17_calls
  refine ⟨fun s w' => w' = w ∧ 0 ≤ s.1 ∧ s.1 ≤ 10000 ∧ ∃ n : Nat, s.2.1 = (n : Int) ∧ n ≤ l ∧ n ≤ 60 ∧ ∀ x ∈ al.take n, x.2.1.length ≤ 10000, fun s _ => l - s.2.1.toNat, ⟨rfl, by simp, by simp, 0, rfl, Nat.zero_le _, Nat.zero_le _, by simp⟩, ?_⟩
  rintro J ⟨left, i, ⟨⟩⟩ w' ⟨e, h0, h1, n, hn, hnl, hn1, hx⟩
  subst e
  dsimp only at h0 h1 hn
  subst hn
  have fin : ∀ m : Nat, m = n → w' = w' ∧ ∃ (l' c' : Nat) (bs : List Act), (Value.slice (slAddr A c 0 3) (Int.toNat (n : Int) - 0) (c - 0)) = .slice A l' c' ∧ bs.length = l' ∧ l' ≤ 60 ∧ RowAt B 3 (ActQ w' B) A bs ∧ ∀ x ∈ bs, x.2.1.length ≤ 10000 := by
    intro _ _
    refine ⟨rfl, n, c, al.take n, by rw [slAddr_zero]; simp, by simp; omega, hn1, RowAt.take h n, hx⟩
  refine cD (fun hi => ?_) (fun hi => ?_)
  · have hi' : n < l := by simp at hi; omega
    obtain ⟨a, hA, hab, hq⟩ := h n al[n] (List.getElem?_eq_getElem (by omega))
    obtain ⟨A', c', _, hcell, _⟩ := hq
    refine cD (fun hh => ?_) (fun hh => ?_)
    · refine cT rfl ⟨by simp, by simp; omega, fin n rfl⟩
    · dsimp only at hh
      refine ⟨a, hA, by simp, by simp; omega, A', _, c', by simpa using hcell, ?_⟩
      refine cD (fun hg => ?_) (fun hg => ?_)
      · exact ⟨by simp, by simp; omega, fin n rfl⟩
      · dsimp only at hg
        refine ⟨a, hA, by simp, by simp; omega, A', _, c', by simpa using hcell, ?_⟩
        rw [IntWalk.i64_in (left - _) (by omega), IntWalk.i64_in ((n : Int) + 1) (by omega)]
        refine ⟨⟨rfl, by simp; omega, by simp; omega, n + 1, by simp, by omega, by omega, fun x hx' => ?_⟩, ?_⟩
        · rw [List.take_add_one, List.getElem?_eq_getElem (by omega)] at hx'
          simp only [Option.toList, List.mem_append, List.mem_singleton] at hx'
          rcases hx' with hx' | rfl
          · exact hx x hx'
          · omega
        · simp; omega
  · have hi' : n = l := by simp at hi; omega
    subst hi'
    exact ⟨rfl, n, c, al, rfl, hl, hn1, h, fun x hx' => hx x (by rw [List.take_of_length_le (by omega)]; exact hx')⟩
theorem shown_ok (w : World) : Ret Try.prog 8 [] w fun v w' => v = .bool true ∧ Fr none1 w w' := by
  apply S8_calls
  refine (DkK.new (K := fun _ => False) (Nat.le_refl _) (fun _ h => h.elim)).use ?_
  rintro v w1 ⟨rfl, h1, f1⟩
  generalize hB : w.heap.size = B at h1 ⊢
  have hlt := h1.1.lt
  refine ⟨_, rfl, ?_⟩
  refine (open_ok h1 ⟨rfl, rfl⟩ (by simp)).use ?_
  rintro v w2 ⟨j, hi, A2, c2, rfl, _, h2, f2, hh1, hh2⟩
  have e0 : scanB ([] : Bs) = ([], 0) := scanB_zero (by decide)
  have eD : opD ⟨[], 0, false, -1⟩ = ⟨[], 0, false, -1⟩ := by unfold opD; rw [e0]; rfl
  rw [eD, e0] at h2
  simp only [e0]
  have h2' := h2.shrink (K' := fun _ => False) fun _ h => h.elim
  refine ⟨_, _, _, _, _, rfl, cF rfl (cF rfl (cF rfl ?_))⟩
  obtain ⟨w3, r3, d3, f3⟩ := run_bmark Uby Uu8 w2 [97] 1 1
  refine ⟨_, _, _, w3, r3, ?_⟩
  have h3 := h2'.fr0 f3
  refine (note_ok (xs := [97]) (c := 1) h3 d3 (by decide) (by decide)).use ?_
  rintro v w4 ⟨rfl, h4, f4⟩
  have l1 : (framed [97]).length = 5 := by rw [framed_length]; rfl
  have n1 := (show Live ⟨[], 0, false, -1⟩ from ⟨rfl, rfl⟩).append (xs := framed [97]) (by rw [l1]; decide)
  have t1 : ntE ⟨[], 0, false, -1⟩ [97] = 0 := by unfold ntE; rw [if_pos (by decide), n1.1]
  have t2 : ntD ⟨[], 0, false, -1⟩ [97] = ⟨framed [97], 0, false, -1⟩ := by unfold ntD; rw [if_pos (by decide), n1.2]; rfl
  rw [t2] at h4
  rw [t1]
  refine ⟨_, rfl, cF rfl ?_⟩
  refine (jsync_ok h4).use ?_
  rintro v w5 ⟨rfl, h5, f5⟩
  obtain ⟨s1, s2⟩ := (show Live ⟨framed [97], 0, false, -1⟩ from ⟨rfl, rfl⟩).sync
  rw [s2] at h5
  rw [s1]
  refine ⟨_, rfl, cF rfl ?_⟩
  obtain ⟨w6, r6, d6, f6⟩ := run_bmark Uby Uu8 w5 [98] 1 1
  refine ⟨_, _, _, w6, r6, ?_⟩
  have h6 := h5.fr0 f6
  have hn : ntN ⟨[], 0, false, -1⟩ [97] (List.length ([] : List Bs)) ≤ 1000000 := by unfold ntN; split <;> decide
  refine (note_ok (xs := [98]) (c := 1) h6 d6 (by decide) hn).use ?_
  rintro v w7 ⟨rfl, h7, f7⟩
  have l2 : (framed [98]).length = 5 := by rw [framed_length]; rfl
  have n2 := (show Live ⟨framed [97], (framed [97]).length, false, -1⟩ from ⟨rfl, rfl⟩).append (xs := framed [98]) (by simp only [l1, l2]; decide)
  have t3 : ntE ⟨framed [97], (framed [97]).length, false, -1⟩ [98] = 0 := by unfold ntE; rw [if_pos (by decide), n2.1]
  have t4 : ntD ⟨framed [97], (framed [97]).length, false, -1⟩ [98] = ⟨framed [97] ++ framed [98], (framed [97]).length, false, -1⟩ := by unfold ntD; rw [if_pos (by decide), n2.2]
  rw [t4] at h7
  rw [t3]
  refine ⟨_, rfl, cF rfl ?_⟩
  -- the crash
  obtain ⟨_, h7d, _, _⟩ := h7
  refine (h7d.crash 3).use ?_
  rintro v w8 ⟨rfl, h8, f8⟩
  have e8 : crD ⟨framed [97] ++ framed [98], (framed [97]).length, false, -1⟩ 3 = ⟨framed [97] ++ (framed [98]).take 3, 8, false, -1⟩ := by
    have hk : kept ⟨framed [97] ++ framed [98], (framed [97]).length, false, -1⟩ 3 = 3 := by unfold kept; simp only [List.length_append, l1, l2]; decide
    unfold crD
    rw [hk]
    simp only [l1]
    rw [List.take_append, l1, List.take_of_length_le (by rw [l1]; decide)]
  rw [e8] at h8
  refine ⟨rfl, ?_⟩
  refine (open_ok h8 ⟨rfl, rfl⟩ (by simp only [List.length_append, List.length_take, l1, l2]; decide)).use ?_
  rintro v w9 ⟨j9, hi9, A9, c9, rfl, fo9, h9, f9, g1, g2⟩
  have es : scanB (framed [97] ++ (framed [98]).take 3) = ([[97]], 5) := by
    have h3l : ((framed [98]).take 3).length < 4 := by rw [List.length_take]; omega
    have hz : sizeB ((framed [98]).take 3) = 0 := by unfold sizeB; exact if_pos h3l
    rw [scanB_frame (by decide), scanB_zero hz, l1]
    rfl
  have eO : opD ⟨framed [97] ++ (framed [98]).take 3, 8, false, -1⟩ = ⟨framed [97], 5, false, -1⟩ := by
    unfold opD
    simp only [es]
    rw [List.take_append_of_le_length (by rw [l1]; decide), List.take_of_length_le (by rw [l1]; decide)]
  rw [eO] at h9
  simp only [es] at fo9 ⊢
  refine ⟨_, _, _, _, _, rfl, ?_⟩
  refine (read_ok h9.2.1.1).use ?_
  rintro v w10 ⟨A10, c10, rfl, o10, f10⟩
  have fo10 := fo9.fr f10 fun _ _ _ h => h
  obtain ⟨a, Bq, cq, ha, hc, hr⟩ := fo10.rs.at (i := 0) (ys := [97]) rfl
  have gB : Bel B w1 w10 := by
    refine (offK_bel f2).trans' ?_
    refine f3.bel0.trans' ((offK_bel f4).trans' ((offK_bel f5).trans' (f6.bel0.trans' ((offK_bel f7).trans' ((offK_bel f8).trans' ((offK_bel f9).trans' f10.bel0))))))
  have fin : Fr none1 w w10 := by subst hB; exact (f1.bel0.trans' gB).top
  refine ⟨_, _, _, _, rfl, cT rfl (cT rfl (cT rfl ⟨a, ha, by decide, by decide, Bq, _, cq, hc, _, w10, run_toString Uby Uu8 Ustr rfl hr, cT (decide_eq_true rfl) ⟨?_, fin⟩⟩))⟩
  have : (rdB ⟨framed [97], 5, false, -1⟩).length = 5 := by unfold rdB; simp [l1]
  rw [this]; rfl
end Go.Proofs
