/- Ways through time: from where one came; a search. -/
import Derived.Test.YtmhjjhpgbafjpaaDoorSpEfree
set_option linter.unusedVariables false
set_option maxRecDepth 100000
namespace Go.Proofs
open Go Go.Eng
def cmB (f : Fl) (from_ : Int) (g : Int → List Sy) (mo c : Int) : Bool := (isF f c 2 || decide (c = from_)) && (g c).any (cn1 (mo - 1))
def cameF (f : Fl) (from_ : Int) (g : Int → List Sy) (cell mo : Int) : Int := ((nearF f cell).find? (cmB f from_ g mo)).getD (-1)
section
variable {w : World} {ok okt ok2 : Nat → Prop} {cof cof2 : Nat → Int} {f : Fl} {s t m nt n : Nat} {from_ start last : Int} {tf : Int → List Wn} {g : Int → List Sy}
theorem find_take {α : Type} {p : α → Bool} : ∀ (l : List α) (i : Nat) (x : α), l[i]? = some x → (l.take i).find? p = none → p x = true → l.find? p = some x
  | [], i, x, h, _, _ => by simp at h
  | a :: l, 0, x, h, _, hp => by simp at h; subst h; simp [hp]
  | a :: l, i + 1, x, h, hn, hp => by
    simp only [List.take_succ_cons, List.find?_cons] at hn ⊢
    split at hn
    · cases hn
    · rename_i ha
      exact find_take l i x (by simpa using h) hn hp
theorem came_ok (S : Sr w ok f s t m from_ start last) (M : Mp w m n ok2 cof g) {cell mo : Int} (hc : 0 ≤ cell ∧ cell < (f.C.size : Int)) (hC : f.C.size ≤ 256) (hmo : -100000 ≤ mo ∧ mo ≤ 2000000) (hl : ∀ c, (g c).length ≤ 1000000) : Ret Tryd.prog 20 [.pointer (some ⟨s, 0, none⟩), .int .i64 cell, .int .i64 mo] w fun v w' => v = .int .i64 (cameF f from_ g cell mo) ∧ Fr none1 w w' := by
  apply S20_calls
  obtain ⟨nA, nc, cn, a, Ai, ci, ha, cA, rA⟩ := S.near hc
  have hnl := near_len f cell
  refine ⟨_, rfl, nA, _, nc, cn, a, ha, hc.1, hc.2, Ai, _, ci, cA, fun s' w' => ∃ j : Nat, s' = ((j : Int), ()) ∧ j ≤ (nearF f cell).length ∧ ((nearF f cell).take j).find? (cmB f from_ g mo) = none ∧ Fr none1 w w', fun s' _ => (nearF f cell).length - s'.1.toNat, ⟨0, rfl, Nat.zero_le _, by simp, Fr.refl _ _⟩, ?_⟩
  rintro J s' w1 ⟨j, rfl, hj, hno, f1⟩
  dsimp only
  refine cD (fun hlt => ?_) (fun hlt => ?_)
  · have hj' : j < (nearF f cell).length := by omega
    have hx : (nearF f cell)[j]? = some (nearF f cell)[j] := List.getElem?_eq_getElem hj'
    have hcm := List.getElem_mem hj'
    generalize (nearF f cell)[j] = c at hx hcm
    have hcb := (near_bound hcm).2.2.1
    obtain ⟨a3, ha3, hc3⟩ := rd_int (rA.fr f1 fun _ _ _ h => h) hx
    have S1 := S.fr f1 fun _ _ _ h => h
    have M1 := M.fr f1 fun _ _ _ h => h
    obtain ⟨lA, lc, cl, la, hla, cla⟩ := S1.lane hcb
    obtain ⟨qA, qc, lA', lc', hb1⟩ := S1.blk
    have ew : IntKind.i64.wrap (mo - 1) = mo - 1 := IntWalk.i64_in _ (by omega)
    have k2 : ∀ {w2}, Fr none1 w1 w2 → ∀ b : Bool, b = cmB f from_ g mo c → S20_k2 (some ⟨s, 0, none⟩) mo c Ai (nearF f cell).length ci ((nearF f cell).length : Int) (j : Int) b w2 (fun v w' => v = .int .i64 (cameF f from_ g cell mo) ∧ Fr none1 w w') (fun s' w'' => (∃ j : Nat, s' = ((j : Int), ()) ∧ j ≤ (nearF f cell).length ∧ ((nearF f cell).take j).find? (cmB f from_ g mo) = none ∧ Fr none1 w w'') ∧ (nearF f cell).length - s'.1.toNat < (nearF f cell).length - (j : Int).toNat) := by
      intro w2 f2 b hb
      refine cB (fun e => ?_) (fun e => ?_)
      · refine ⟨?_, f1.trans' f2⟩
        unfold cameF
        rw [find_take _ _ _ hx hno (by rw [← hb, e])]
        rfl
      · rw [IntWalk.i64_in _ (by omega)]
        refine ⟨⟨j + 1, rfl, by omega, ?_, f1.trans' f2⟩, by dsimp only; omega⟩
        rw [List.take_add_one, hx, List.find?_append, hno]
        simp [← hb, e]
    have can : Ret Tryd.prog 39 [.pointer (some ⟨s, 0, none⟩), .int .i64 c, .int .i64 (IntKind.i64.wrap (mo - 1))] w1 fun v w' => v = .bool ((g c).any (cn1 (mo - 1))) ∧ Fr none1 w1 w' := by
      rw [ew]; exact can_ok S1 M1 c (mo - 1) (i64r_of (by omega)) (hl c)
    refine ⟨a3, ha3, by omega, by omega, c, hc3, _, rfl, lA, _, lc, by rw [add_g]; exact cl, la, hla, hcb.1, hcb.2, _, cla, cB (fun h => ?_) (fun h => ?_)⟩
    · refine can.use ?_
      rintro v w2 ⟨rfl, f2⟩
      exact ⟨_, rfl, k2 f2 _ (by unfold cmB; rw [h]; rfl)⟩
    · refine ⟨_, rfl, _, by rw [add_g]; exact hb1.cell 4, cD (fun he => ?_) (fun he => ?_)⟩
      · refine can.use ?_
        rintro v w2 ⟨rfl, f2⟩
        exact ⟨_, rfl, k2 f2 _ (by unfold cmB; rw [h, decide_eq_true he]; rfl)⟩
      · exact k2 (Fr.refl _ _) _ (by unfold cmB; rw [h, decide_eq_false he]; rfl)
  · have e : j = (nearF f cell).length := by omega
    subst e
    rw [List.take_length] at hno
    exact ⟨by unfold cameF; rw [hno]; rfl, f1⟩
end
/-! ### The making of a search -/
theorem Enr : ElT Tryd.prog 74 79 1 24 := elT_of (by kernel_rfl)
theorem Ebo : ElT Tryd.prog 75 4 1 1 := elT_of (by kernel_rfl)
/-- A search under way: the first so many cells. -/
structure SrN (w0 w : World) (f : Fl) (s t m : Nat) (from_ start : Int) (i : Nat) : Prop where
  sr : ∃ nA nc lA lc vs, Blk w s 77 [.slice nA i nc, .slice lA i lc, .func (.func 30) ⟨[.pointer (some ⟨t, 0, none⟩)]⟩ ⟨[]⟩, .func (.func 31) ⟨[.pointer (some ⟨t, 0, none⟩)]⟩ ⟨[]⟩, .int .i64 from_, .int .i64 start, .int .i64 0, .map (some m)] ∧
    Own w 79 1 (fun k => s < k) nA i nc vs ∧ (∀ j : Nat, j < i → ∃ Ai ci, vs[j]? = some (.slice Ai (nearF f (j : Int)).length ci) ∧ Own w 3 1 (fun k => s < k) Ai (nearF f (j : Int)).length ci (ints (nearF f (j : Int)))) ∧ Own w 4 1 (fun k => s < k) lA i lc (bvl ((laneL f).take i))
  mp : Mp w m 0 (fun k => k = m) (fun _ => 0) (fun _ => [])
  fl : Blk w w0.heap.size 25 (fcell f)
  lo : w0.heap.size < m ∧ m < s
  bel : Bel w0.heap.size w0 w
section
variable {w0 w : World} {f : Fl} {s t m : Nat} {from_ start : Int} {i : Nat}
theorem SrN.fr0 (h : SrN w0 w f s t m from_ start i) {w' : World} (g : Fr none1 w w') : SrN w0 w' f s t m from_ start i := by
  obtain ⟨nA, nc, lA, lc, vs, h1, h2, h3, h4⟩ := h.sr
  exact ⟨⟨nA, nc, lA, lc, vs, h1.fr g fun h => h, h2.fr g fun _ _ _ h => h, fun j hj => by obtain ⟨Ai, ci, q1, q2⟩ := h3 j hj; exact ⟨Ai, ci, q1, q2.fr g fun _ _ _ h => h⟩, h4.fr g fun _ _ _ h => h⟩, h.mp.fr g fun _ _ _ h => h, h.fl.fr g fun h => h, h.lo, h.bel.trans' g.bel0⟩
end
end Go.Proofs
