/- Ways through time: what is known, what can be, how soon. -/
import Derived.Test.YtmhjjhpgbafjpaaDoorFlIfree
set_option linter.unusedVariables false
set_option maxRecDepth 100000
namespace Go.Eng
open Go
/-- A struct of three cells, newly made and written. -/
theorem nw3 (w : World) (t : TypeId) (a b c x y z : Value) : ∀ W, W = (((w.alloc (.cells ⟨[a, b, c]⟩ t)).setCell ⟨w.heap.size, 0, none⟩ x).setCell ⟨w.heap.size, 1, none⟩ y).setCell ⟨w.heap.size, 2, none⟩ z →
    ((∃ u, (w.alloc (.cells ⟨[a, b, c]⟩ t)).cell? ⟨w.heap.size, 0, none⟩ = some u) ∧ (w.alloc (.cells ⟨[a, b, c]⟩ t)).frozen? ⟨w.heap.size, 0, none⟩ = false ∧
      (∃ u, ((w.alloc (.cells ⟨[a, b, c]⟩ t)).setCell ⟨w.heap.size, 0, none⟩ x).cell? ⟨w.heap.size, 1, none⟩ = some u) ∧ ((w.alloc (.cells ⟨[a, b, c]⟩ t)).setCell ⟨w.heap.size, 0, none⟩ x).frozen? ⟨w.heap.size, 1, none⟩ = false ∧
      (∃ u, (((w.alloc (.cells ⟨[a, b, c]⟩ t)).setCell ⟨w.heap.size, 0, none⟩ x).setCell ⟨w.heap.size, 1, none⟩ y).cell? ⟨w.heap.size, 2, none⟩ = some u) ∧ (((w.alloc (.cells ⟨[a, b, c]⟩ t)).setCell ⟨w.heap.size, 0, none⟩ x).setCell ⟨w.heap.size, 1, none⟩ y).frozen? ⟨w.heap.size, 2, none⟩ = false) ∧
    Blk W w.heap.size t [x, y, z] ∧ Fr none1 w W := by
  rintro W rfl
  have b0 := Blk.new w t [a, b, c]
  have b1 := b0.set 0 x
  have f1 := Fr.setCell (F := fun k => k = w.heap.size) (w.alloc (.cells ⟨[a, b, c]⟩ t)) (p := ⟨w.heap.size, 0, none⟩) rfl x
  have b2 := b1.set 1 y
  have f2 := Fr.setCell (F := fun k => k = w.heap.size) ((w.alloc (.cells ⟨[a, b, c]⟩ t)).setCell ⟨w.heap.size, 0, none⟩ x) (p := ⟨w.heap.size, 1, none⟩) rfl y
  have b3 := b2.set 2 z
  have f3 := Fr.setCell (F := fun k => k = w.heap.size) (((w.alloc (.cells ⟨[a, b, c]⟩ t)).setCell ⟨w.heap.size, 0, none⟩ x).setCell ⟨w.heap.size, 1, none⟩ y) (p := ⟨w.heap.size, 2, none⟩) rfl z
  have e : ∀ k, k = w.heap.size → w.heap.size ≤ k := fun k e => Nat.le_of_eq e.symm
  exact ⟨⟨b0.has 0 (by simp), b0.free 0, b1.has 1 (by simp), b1.free 1, b2.has 2 (by simp), b2.free 2⟩, b3, ((Fr.alloc _ _).bel0.trans' ((f1.bel e).trans' ((f2.bel e).trans' (f3.bel e)))).top⟩
end Go.Eng
namespace Go.Proofs
open Go Go.Eng
structure Sy where
  c : Int
  fr : Int
  to : Int
def ycell (x : Sy) : List Value := [.int .i64 x.c, .int .i64 x.fr, .int .i64 x.to]
theorem ycell_len (x : Sy) : (ycell x).length = 3 := rfl
theorem ycell_one (x : Sy) : ∀ v ∈ ycell x, v.oneCell' = true := by
  intro v hv
  simp only [ycell, List.mem_cons, List.not_mem_nil, or_false] at hv
  rcases hv with rfl | rfl | rfl <;> rfl
theorem Esy : ElT Tryd.prog 83 58 3 24 := elT_of (by kernel_rfl)
theorem row3 {w : World} {ok : Nat → Prop} {A : Option Addr} {xs : List Sy} {i : Nat} {x : Sy} (h : Rd w ok A (rws ycell xs)) (hx : xs[i]? = some x) : ∃ t, A = some t ∧ w.cell? (t.add (Int.toNat (i : Int) * 3)) = some (.int .i64 x.c) ∧ w.cell? ((t.add (Int.toNat (i : Int) * 3)).add 1) = some (.int .i64 x.fr) ∧ w.cell? ((t.add (Int.toNat (i : Int) * 3)).add 2) = some (.int .i64 x.to) := by
  rw [Int.toNat_natCast]
  have q : ∀ j (v : Value), j < 3 → (ycell x)[j]? = some v → ∃ t, A = some t ∧ w.cell? ((t.add (i * 3)).add j) = some v := fun j v hj hv => by
    have e := rws_get ycell_len hx (j := j) hj
    obtain ⟨t, ht, _, hc⟩ := h.at (e.trans hv)
    exact ⟨t, ht, by rw [add_add]; exact hc⟩
  obtain ⟨t, ht, c0⟩ := q 0 _ (by decide) rfl
  obtain ⟨t1, ht1, c1⟩ := q 1 _ (by decide) rfl
  obtain ⟨t2, ht2, c2⟩ := q 2 _ (by decide) rfl
  rw [ht] at ht1 ht2
  cases ht1; cases ht2
  rw [add_zero'] at c0
  exact ⟨t, ht, c0, c1, c2⟩
def kn1 (x y : Sy) : Bool := decide (y.to = x.to ∧ y.fr ≤ x.fr)
def cn1 (m : Int) (x : Sy) : Bool := decide (x.fr ≤ m ∧ m < x.to)
theorem kn_ok (x y : Sy) {w : World} {p : Nat} (hp : Blk w p 58 (ycell x)) : Ret Tryd.prog 55 [.agg ⟨ycell y⟩, .pointer (some ⟨p, 0, none⟩)] w fun v w' => v = .bool (kn1 x y) ∧ Fr none1 w w' := by
  apply S55_calls
  have b0 := Blk.new w 58 (ycell y)
  have f0 : Fr none1 w (w.alloc (.cells ⟨ycell y⟩ 58)) := Fr.alloc _ _
  have p0 := hp.fr f0 fun h => h
  refine ⟨_, b0.cell 2, _, by rw [add_g]; exact p0.cell 2, cD (fun h => ⟨_, b0.cell 1, _, by rw [add_g]; exact p0.cell 1, ?_, f0⟩) (fun h => ⟨?_, f0⟩)⟩
  · unfold kn1; congr 1; rw [decide_eq_decide]; omega
  · unfold kn1; rw [decide_eq_false (by omega)]
theorem cn_ok (m : Int) (x : Sy) {w : World} {p : Nat} (hp : Blk w p 3 [.int .i64 m]) : Ret Tryd.prog 56 [.agg ⟨ycell x⟩, .pointer (some ⟨p, 0, none⟩)] w fun v w' => v = .bool (cn1 m x) ∧ Fr none1 w w' := by
  apply S56_calls
  have b0 := Blk.new w 58 (ycell x)
  have f0 : Fr none1 w (w.alloc (.cells ⟨ycell x⟩ 58)) := Fr.alloc _ _
  have p0 := hp.fr f0 fun h => h
  refine ⟨_, b0.cell 1, _, p0.cell 0, cD (fun h => ⟨_, p0.cell 0, _, b0.cell 2, ?_, f0⟩) (fun h => ⟨?_, f0⟩)⟩
  · unfold cn1; congr 1; rw [decide_eq_decide]; omega
  · unfold cn1; rw [decide_eq_false (by omega)]
section
variable {w : World} {ok : Nat → Prop} {A : Option Addr} {c : Nat} {ys : List Sy}
theorem knIx_ok (x : Sy) {p : Nat} (hp : Blk w p 58 (ycell x)) (h : Rd w ok A (rws ycell ys)) (hl : ys.length ≤ 1000000) : Ret Tryd.prog 65 [.slice A ys.length c, .func (.func 55) ⟨[]⟩ ⟨[.pointer (some ⟨p, 0, none⟩)]⟩] w fun v w' => (∃ i : Int, v = .int .i64 i ∧ decide (0 ≤ i) = ys.any (kn1 x)) ∧ Fr none1 w w' := by
  apply S65_f55_calls
  have h0 := h.mono (ok' := fun k => k < w.heap.size) fun k hk _ => hk
  refine ⟨fun s w' => ∃ i : Nat, s = ((i : Int), ()) ∧ i ≤ ys.length ∧ (ys.take i).any (kn1 x) = false ∧ Fr none1 w w', fun s _ => ys.length - s.1.toNat, ⟨0, rfl, Nat.zero_le _, by simp, Fr.refl _ _⟩, ?_⟩
  rintro J s w1 ⟨i, rfl, hi, hall, f1⟩
  dsimp only
  refine cD (fun hlt => ?_) (fun hlt => ?_)
  · have hi' : i < ys.length := by omega
    have hx : ys[i]? = some ys[i] := List.getElem?_eq_getElem hi'
    have hm := List.getElem_mem hi'
    generalize ys[i] = y at hx hm
    obtain ⟨t, ht, c0, c1, c2⟩ := row3 (h0.fr f1 fun _ _ _ h => h) hx
    refine ⟨t, ht, by omega, by omega, _, c0, _, c1, _, c2, ?_⟩
    refine (kn_ok x y (hp.fr f1 fun h => h)).use ?_
    rintro v w2 ⟨rfl, f2⟩
    refine ⟨_, rfl, cB (fun e => ?_) (fun e => ?_)⟩
    · refine ⟨⟨_, rfl, ?_⟩, f1.trans' f2⟩
      rw [decide_eq_true (by omega)]
      exact (List.any_eq_true.2 ⟨y, hm, e⟩).symm
    · rw [IntWalk.i64_in _ (by omega)]
      exact ⟨⟨i + 1, rfl, by omega, by rw [List.take_add_one, hx, List.any_append, hall]; simp [e], f1.trans' f2⟩, by dsimp only; omega⟩
  · have e : i = ys.length := by omega
    subst e
    rw [List.take_length] at hall
    exact ⟨⟨_, rfl, by rw [hall]; decide⟩, f1⟩
theorem knCo_ok (x : Sy) {p : Nat} (hp : Blk w p 58 (ycell x)) (h : Rd w ok A (rws ycell ys)) (hl : ys.length ≤ 1000000) : Ret Tryd.prog 54 [.slice A ys.length c, .func (.func 55) ⟨[]⟩ ⟨[.pointer (some ⟨p, 0, none⟩)]⟩] w fun v w' => v = .bool (ys.any (kn1 x)) ∧ Fr none1 w w' := by
  apply S54_f55_calls
  refine (knIx_ok x hp h hl).use ?_
  rintro v w1 ⟨⟨i, rfl, e⟩, f1⟩
  exact ⟨_, rfl, by rw [e], f1⟩
theorem cnIx_ok (m : Int) {p : Nat} (hp : Blk w p 3 [.int .i64 m]) (h : Rd w ok A (rws ycell ys)) (hl : ys.length ≤ 1000000) : Ret Tryd.prog 65 [.slice A ys.length c, .func (.func 56) ⟨[]⟩ ⟨[.pointer (some ⟨p, 0, none⟩)]⟩] w fun v w' => (∃ i : Int, v = .int .i64 i ∧ decide (0 ≤ i) = ys.any (cn1 m)) ∧ Fr none1 w w' := by
  apply S65_f56_calls
  have h0 := h.mono (ok' := fun k => k < w.heap.size) fun k hk _ => hk
  refine ⟨fun s w' => ∃ i : Nat, s = ((i : Int), ()) ∧ i ≤ ys.length ∧ (ys.take i).any (cn1 m) = false ∧ Fr none1 w w', fun s _ => ys.length - s.1.toNat, ⟨0, rfl, Nat.zero_le _, by simp, Fr.refl _ _⟩, ?_⟩
  rintro J s w1 ⟨i, rfl, hi, hall, f1⟩
  dsimp only
  refine cD (fun hlt => ?_) (fun hlt => ?_)
  · have hi' : i < ys.length := by omega
    have hx : ys[i]? = some ys[i] := List.getElem?_eq_getElem hi'
    have hm := List.getElem_mem hi'
    generalize ys[i] = y at hx hm
    obtain ⟨t, ht, c0, c1, c2⟩ := row3 (h0.fr f1 fun _ _ _ h => h) hx
    refine ⟨t, ht, by omega, by omega, _, c0, _, c1, _, c2, ?_⟩
    refine (cn_ok m y (hp.fr f1 fun h => h)).use ?_
    rintro v w2 ⟨rfl, f2⟩
    refine ⟨_, rfl, cB (fun e => ?_) (fun e => ?_)⟩
    · refine ⟨⟨_, rfl, ?_⟩, f1.trans' f2⟩
      rw [decide_eq_true (by omega)]
      exact (List.any_eq_true.2 ⟨y, hm, e⟩).symm
    · rw [IntWalk.i64_in _ (by omega)]
      exact ⟨⟨i + 1, rfl, by omega, by rw [List.take_add_one, hx, List.any_append, hall]; simp [e], f1.trans' f2⟩, by dsimp only; omega⟩
  · have e : i = ys.length := by omega
    subst e
    rw [List.take_length] at hall
    exact ⟨⟨_, rfl, by rw [hall]; decide⟩, f1⟩
theorem cnCo_ok (m : Int) {p : Nat} (hp : Blk w p 3 [.int .i64 m]) (h : Rd w ok A (rws ycell ys)) (hl : ys.length ≤ 1000000) : Ret Tryd.prog 54 [.slice A ys.length c, .func (.func 56) ⟨[]⟩ ⟨[.pointer (some ⟨p, 0, none⟩)]⟩] w fun v w' => v = .bool (ys.any (cn1 m)) ∧ Fr none1 w w' := by
  apply S54_f56_calls
  refine (cnIx_ok m hp h hl).use ?_
  rintro v w1 ⟨⟨i, rfl, e⟩, f1⟩
  exact ⟨_, rfl, by rw [e], f1⟩
end
/-! ### A search -/
def bvl (l : List Bool) : List Value := l.map Value.bool
def laneL (f : Fl) : List Bool := (List.range f.C.size).map fun i : Nat => isF f (i : Int) 2
/-- What a search reads: the cells near each one, the lanes, the table, where and when it begins and ends, its stays. -/
def Sr (w : World) (ok : Nat → Prop) (f : Fl) (s t m : Nat) (from_ start last : Int) : Prop :=
  ok s ∧ ∃ nA nc lA lc vs, Blk w s 77 [.slice nA f.C.size nc, .slice lA f.C.size lc, .func (.func 30) ⟨[.pointer (some ⟨t, 0, none⟩)]⟩ ⟨[]⟩, .func (.func 31) ⟨[.pointer (some ⟨t, 0, none⟩)]⟩ ⟨[]⟩, .int .i64 from_, .int .i64 start, .int .i64 last, .map (some m)] ∧
    Own w 79 1 ok nA f.C.size nc vs ∧ (∀ i : Nat, i < f.C.size → ∃ Ai ci, vs[i]? = some (.slice Ai (nearF f (i : Int)).length ci) ∧ Rd w (fun k => ok k ∧ k ≠ s) Ai (ints (nearF f (i : Int)))) ∧ Own w 4 1 ok lA f.C.size lc (bvl (laneL f))
section
variable {w w' : World} {ok : Nat → Prop} {f : Fl} {s t m : Nat} {from_ start last : Int}
theorem Sr.fr {F : Nat → Prop} (h : Sr w ok f s t m from_ start last) (hf : Fr F w w') (hd : ∀ k, k < w.heap.size → ok k → ¬ F k) : Sr w' ok f s t m from_ start last := by
  obtain ⟨h0, nA, nc, lA, lc, vs, h1, h2, h3, h4⟩ := h
  refine ⟨h0, nA, nc, lA, lc, vs, h1.fr hf (hd s h1.lt h0), h2.fr hf hd, fun i hi => ?_, h4.fr hf hd⟩
  obtain ⟨Ai, ci, q1, q2⟩ := h3 i hi
  exact ⟨Ai, ci, q1, q2.fr hf fun k hk' h => hd k hk' h.1⟩
theorem Sr.mono {ok' : Nat → Prop} (h : Sr w ok f s t m from_ start last) (hk : ∀ k, k < w.heap.size → ok k → ok' k) : Sr w ok' f s t m from_ start last := by
  obtain ⟨h0, nA, nc, lA, lc, vs, h1, h2, h3, h4⟩ := h
  refine ⟨hk s h1.lt h0, nA, nc, lA, lc, vs, h1, h2.mono hk, fun i hi => ?_, h4.mono hk⟩
  obtain ⟨Ai, ci, q1, q2⟩ := h3 i hi
  exact ⟨Ai, ci, q1, q2.mono fun k hk' h => ⟨hk k hk' h.1, h.2⟩⟩
theorem Sr.blk (h : Sr w ok f s t m from_ start last) : ∃ nA nc lA lc, Blk w s 77 [.slice nA f.C.size nc, .slice lA f.C.size lc, .func (.func 30) ⟨[.pointer (some ⟨t, 0, none⟩)]⟩ ⟨[]⟩, .func (.func 31) ⟨[.pointer (some ⟨t, 0, none⟩)]⟩ ⟨[]⟩, .int .i64 from_, .int .i64 start, .int .i64 last, .map (some m)] := by
  obtain ⟨h0, nA, nc, lA, lc, vs, h1, _⟩ := h
  exact ⟨nA, nc, lA, lc, h1⟩
abbrev Mp (w : World) (m n : Nat) (ok : Nat → Prop) (cof : Nat → Int) (g : Int → List Sy) : Prop := MR ycell w Tryd.prog 3 58 3 m n ok cof g
theorem uMs : Tryd.prog.underlying 73 = some (.map 3 83) := by kernel_rfl
theorem Zsl (w : World) : (zeroValue 83).run Tryd.prog w = .ok (.slice none 0 0) w := by kernel_rfl
def i64r (x : Int) : Prop := IntKind.i64.min ≤ x ∧ x ≤ IntKind.i64.max
theorem i64r_of {x : Int} (h : -1000000 ≤ x ∧ x ≤ 1000000) : i64r x := by unfold i64r; simp [IntKind.min, IntKind.max, IntKind.bits, IntKind.signed]; omega
variable {n : Nat} {ok2 : Nat → Prop} {cof : Nat → Int} {g : Int → List Sy}
theorem known_ok (S : Sr w ok f s t m from_ start last) (M : Mp w m n ok2 cof g) (x : Sy) (hx : i64r x.c) (hl : (g x.c).length ≤ 1000000) : Ret Tryd.prog 37 [.pointer (some ⟨s, 0, none⟩), .agg ⟨ycell x⟩] w fun v w' => v = .bool ((g x.c).any (kn1 x)) ∧ Fr none1 w w' := by
  apply S37_calls
  have b0 := Blk.new w 58 (ycell x)
  have f0 : Fr none1 w (w.alloc (.cells ⟨ycell x⟩ 58)).drew := (Fr.alloc _ _ : Fr none1 w (w.alloc (.cells ⟨ycell x⟩ 58))).trans' (Fr.drew _)
  have b1 := b0.fr (Fr.drew _ : Fr none1 _ (w.alloc (.cells ⟨ycell x⟩ 58)).drew) fun h => h
  obtain ⟨nA, nc, lA, lc, hb⟩ := (S.fr f0 fun _ _ _ h => h).blk
  obtain ⟨A, cp, r, o⟩ := (M.fr f0 fun _ _ _ h => h).look uInt uMs (Zsl _) hx
  refine ⟨_, rfl, _, by rw [add_g]; exact hb.cell 7, _, b1.cell 0, A, _, cp, _, r, ?_⟩
  refine (knCo_ok x b1 o.rd hl).use ?_
  rintro v w1 ⟨rfl, f1⟩
  exact ⟨_, rfl, rfl, f0.trans' f1⟩
theorem can_ok (S : Sr w ok f s t m from_ start last) (M : Mp w m n ok2 cof g) (cell mo : Int) (hx : i64r cell) (hl : (g cell).length ≤ 1000000) : Ret Tryd.prog 39 [.pointer (some ⟨s, 0, none⟩), .int .i64 cell, .int .i64 mo] w fun v w' => v = .bool ((g cell).any (cn1 mo)) ∧ Fr none1 w w' := by
  apply S39_calls
  have b0 := Blk.new w 3 [.int .i64 mo]
  have f0 : Fr none1 w (w.alloc (.cells ⟨[.int .i64 mo]⟩ 3)) := Fr.alloc _ _
  obtain ⟨nA, nc, lA, lc, hb⟩ := (S.fr f0 fun _ _ _ h => h).blk
  obtain ⟨A, cp, r, o⟩ := (M.fr f0 fun _ _ _ h => h).look uInt uMs (Zsl _) hx
  refine ⟨_, rfl, _, by rw [add_g]; exact hb.cell 7, A, _, cp, _, r, ?_⟩
  refine (cnCo_ok mo b0 o.rd hl).use ?_
  rintro v w1 ⟨rfl, f1⟩
  exact ⟨_, rfl, rfl, f0.trans' f1⟩
def soonS (a : Int) (x : Sy) : Int := if a < 0 ∨ x.fr < a then x.fr else a
def soonF (ys : List Sy) : Int := ys.foldl soonS (-1)
theorem soon_ok (S : Sr w ok f s t m from_ start last) (M : Mp w m n ok2 cof g) (cell : Int) (hx : i64r cell) (hl : (g cell).length ≤ 1000000) : Ret Tryd.prog 18 [.pointer (some ⟨s, 0, none⟩), .int .i64 cell] w fun v w' => v = .int .i64 (soonF (g cell)) ∧ Fr none1 w w' := by
  apply S18_calls
  obtain ⟨nA, nc, lA, lc, hb⟩ := S.blk
  obtain ⟨A, cp, r, o⟩ := M.look uInt uMs (Zsl _) hx
  have o0 := o.rd.mono (ok' := fun k => k < w.heap.size) fun k hk _ => hk
  refine ⟨_, rfl, _, by rw [add_g]; exact hb.cell 7, A, _, cp, _, r, fun s w' => ∃ i : Nat, s = (((g cell).take i).foldl soonS (-1), (i : Int), ()) ∧ i ≤ (g cell).length ∧ Fr none1 w w', fun s _ => (g cell).length - s.2.1.toNat, ⟨0, by rw [List.take_zero]; rfl, Nat.zero_le _, Fr.refl _ _⟩, ?_⟩
  rintro J s w1 ⟨i, rfl, hi, f1⟩
  dsimp only
  refine cD (fun hlt => ?_) (fun hlt => ?_)
  · have hi' : i < (g cell).length := by omega
    have hx : (g cell)[i]? = some (g cell)[i] := List.getElem?_eq_getElem hi'
    generalize (g cell)[i] = y at hx
    obtain ⟨t, ht, c0, c1, c2⟩ := row3 (o0.fr f1 fun _ _ _ h => h) hx
    obtain ⟨⟨u1, z1, u2, z2, u3, z3⟩, b3, f3⟩ := nw3 w1 58 (.int .i64 0) (.int .i64 0) (.int .i64 0) (.int .i64 y.c) (.int .i64 y.fr) (.int .i64 y.to) _ rfl
    have et : ((g cell).take (i + 1)).foldl soonS (-1) = soonS (((g cell).take i).foldl soonS (-1)) y := by rw [List.take_add_one, hx, List.foldl_append]; rfl
    generalize ((g cell).take i).foldl soonS (-1) = a at et
    have f13 := f1.trans' f3
    refine ⟨t, ht, by omega, by omega, _, c0, _, c1, _, c2, u1, z1, u2, z2, u3, z3, cD (fun h => cT rfl ⟨_, b3.cell 1, ?_⟩) (fun h => ⟨_, b3.cell 1, cD (fun h2 => ⟨_, b3.cell 1, ?_⟩) (fun h2 => ?_)⟩)⟩
    all_goals rw [IntWalk.i64_in _ (by omega)]
    · exact ⟨⟨i + 1, by rw [et]; unfold soonS; rw [if_pos (.inl h)]; rfl, by omega, f13⟩, by dsimp only; omega⟩
    · exact ⟨⟨i + 1, by rw [et]; unfold soonS; rw [if_pos (.inr h2)]; rfl, by omega, f13⟩, by dsimp only; omega⟩
    · exact ⟨⟨i + 1, by rw [et]; unfold soonS; rw [if_neg (by omega)]; rfl, by omega, f13⟩, by dsimp only; omega⟩
  · have e : i = (g cell).length := by omega
    subst e
    rw [List.take_length]
    exact ⟨rfl, f1⟩
end
end Go.Proofs
