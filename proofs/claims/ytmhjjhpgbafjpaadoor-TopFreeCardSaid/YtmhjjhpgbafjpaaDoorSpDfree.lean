/- Ways through time: the first stay; what lies beyond one; from where one came. -/
import Derived.Test.YtmhjjhpgbafjpaaDoorSpCfree
set_option linter.unusedVariables false
set_option maxRecDepth 100000
namespace Go.Proofs
open Go Go.Eng
theorem bvl_get {l : List Bool} {i : Nat} {b : Bool} (h : l[i]? = some b) : (bvl l)[i]? = some (.bool b) := by simp [bvl, h]
theorem rd_bool {w : World} {ok : Nat → Prop} {A : Option Addr} {xs : List Bool} (h : Rd w ok A (bvl xs)) {i : Nat} {x : Bool} (hx : xs[i]? = some x) : ∃ a, A = some a ∧ w.cell? (a.add (i * 1)) = some (.bool x) := by
  obtain ⟨a, ha, _, hc⟩ := h.at (bvl_get hx)
  exact ⟨a, ha, by rw [Nat.mul_one]; exact hc⟩
theorem lane_get {f : Fl} {i : Int} (h : 0 ≤ i ∧ i < (f.C.size : Int)) : (laneL f)[i.toNat]? = some (isF f i 2) := by
  have e : ((i.toNat : Nat) : Int) = i := by omega
  unfold laneL
  rw [List.getElem?_map, List.getElem?_range (by omega)]
  simp [e]
section
variable {w : World} {ok okt : Nat → Prop} {cof : Nat → Int} {f : Fl} {s t m nt : Nat} {from_ start last : Int} {tf : Int → List Wn}
theorem first_ok (S : Sr w ok f s t m from_ start last) (T : Tab w okt cof t nt tf) (ht : tf from_ = []) (hf : i64r from_) (hs : 0 ≤ start ∧ start ≤ 1000) : Ret Tryd.prog 19 [.pointer (some ⟨s, 0, none⟩)] w fun v w' => v = .agg ⟨ycell ⟨from_, start, 1048576⟩⟩ ∧ Fr none1 w w' := by
  apply S19_calls
  have b0 := Blk.new w 58 [.int .i64 0, .int .i64 0, .int .i64 0]
  have f0 : Fr none1 w (w.alloc (.cells ⟨[.int .i64 0, .int .i64 0, .int .i64 0]⟩ 58)).drew := (Fr.alloc _ _ : Fr none1 w (w.alloc (.cells ⟨[.int .i64 0, .int .i64 0, .int .i64 0]⟩ 58))).trans' (Fr.drew _)
  have b1 := b0.fr (Fr.drew _ : Fr none1 _ (w.alloc (.cells ⟨[.int .i64 0, .int .i64 0, .int .i64 0]⟩ 58)).drew) fun h => h
  have S1 := S.fr f0 fun _ _ _ h => h
  have T1 := T.fr f0 fun _ _ _ h => h
  unfold S19
  generalize (w.alloc (.cells ⟨[.int .i64 0, .int .i64 0, .int .i64 0]⟩ 58)).drew = w1 at b1 f0 S1 T1 ⊢
  obtain ⟨nA, nc, lA, lc, hb⟩ := S1.blk
  have ew : IntKind.i64.wrap (start + 1) = start + 1 := IntWalk.i64_in _ (by omega)
  obtain ⟨⟨u1, z1, u2, z2, u3, z3⟩, b2, f2⟩ := nw3 w1 58 (.int .i64 0) (.int .i64 0) (.int .i64 0) (.int .i64 from_) (.int .i64 start) (.int .i64 (start + 1)) _ rfl
  refine ⟨_, rfl, _, rfl, _, rfl, _, by rw [add_g]; exact hb.cell 5, _, by rw [add_g]; exact hb.cell 4, _, by rw [add_g]; exact hb.cell 5, u1, z1, u2, z2, u3, z3, ?_⟩
  rw [ew]
  have hx1 : w.heap.size < w1.heap.size := b1.lt
  generalize hX : w1.heap.size = X at *
  unfold S19_k0
  generalize hW : World.drew _ = w3
  have f3 : Fr none1 _ w3 := hW ▸ Fr.drew _
  have f23 := f2.trans' f3
  have hb3 := hb.fr f23 fun h => h
  have b3 := b2.fr f3 fun h => h
  have T3 := T1.fr f23 fun _ _ _ h => h
  have r3 := b1.fr f23 fun h => h
  refine ⟨_, rfl, _, rfl, _, by rw [add_g]; exact hb3.cell 2, _, by rw [add_g]; exact hb3.cell 4, ?_⟩
  have fc := wfree_ok T3 hf ht
  refine fc.use ?_
  rintro v w4 ⟨A4, c4, rfl, o4, f4⟩
  have b4 := b3.fr f4 fun h => h
  have r4 := r3.fr f4 fun h => h
  have f04 := f0.trans' (f23.trans' f4)
  have hs4 := f04.size
  refine ⟨_, _, _, rfl, fun s w' => ∃ i : Nat, s = ((i : Int), ()) ∧ i ≤ 1 ∧ Blk w' X 58 [.int .i64 from_, .int .i64 start, .int .i64 (if i = 0 then start + 1 else 1048576)] ∧ Blk w' w.heap.size 58 [.int .i64 0, .int .i64 0, .int .i64 0] ∧ Fr (fun k => k = X) w4 w', fun s _ => 1 - s.1.toNat, ⟨0, rfl, by omega, b4, r4, Fr.refl _ _⟩, ?_⟩
  rintro J s' w5 ⟨i, rfl, hi, b5, r5, f5⟩
  dsimp only
  have hXl := b4.lt
  refine cD (fun hlt => ?_) (fun hlt => ?_)
  · have e0 : i = 0 := by omega
    subst e0
    have o5 := (o4.rd.mono (ok' := fun k => k < w4.heap.size ∧ w3.heap.size ≤ k) fun k hk h => ⟨hk, h⟩).fr f5 fun k _ hk e => by
      have e : k = X := e
      have := b3.lt
      omega
    obtain ⟨t5, ht5, c0, c1⟩ := row2 o5 (i := 0) (x := (0, 1048576)) rfl
    obtain ⟨p1, p2, p3, p4, b6, f6⟩ := cp2 w5 33 (.int .i64 0) (.int .i64 0) (.int .i64 0) (.int .i64 1048576)
    have b7 := b5.fr f6 fun h => h
    have r7 := r5.fr f6 fun h => h
    refine ⟨t5, ht5, by omega, by omega, _, c0, _, c1, p1, p2, p3, p4, ?_⟩
    generalize World.setCell _ _ _ = w6 at b6 f6 b7 r7 ⊢
    refine ⟨_, b6.cell 0, _, by rw [add_g]; exact b7.cell 2, cT (decide_eq_true ?_) ⟨_, by rw [add_g]; exact b7.cell 2, _, b6.cell 1, ?_⟩⟩
    · show (0 : Int) ≤ start + 1; omega
    · rw [decide_eq_true (show (if (0 : Nat) = 0 then start + 1 else 1048576) < 1048576 by rw [if_pos rfl]; omega)]
      refine cT rfl ⟨_, by rw [add_g]; exact b6.cell 1, by rw [add_g]; exact b7.has 2 (by simp), by rw [add_g]; exact b7.free 2, ?_⟩
      rw [add_g, IntWalk.i64_in _ (by omega)]
      have fs : Fr (fun k => k = X) w6 (w6.setCell ⟨X, 2, none⟩ (.int .i64 1048576)) := Fr.setCell (F := fun k => k = X) w6 rfl _
      exact ⟨⟨1, rfl, by omega, b7.set 2 (.int .i64 1048576), r7.fr fs (by omega), f5.trans' ((f6.mono fun _ _ h => h.elim).trans' fs)⟩, by decide⟩
  · have e1 : i = 1 := by omega
    subst e1
    have q := r5
    have fr1 : Fr (fun k => k = w.heap.size) w5 (((w5.setCell ⟨w.heap.size, 0, none⟩ (.int .i64 from_)).setCell ⟨w.heap.size, 1, none⟩ (.int .i64 start)).setCell ⟨w.heap.size, 2, none⟩ (.int .i64 1048576)) :=
      (Fr.setCell (F := fun k => k = w.heap.size) w5 (p := ⟨w.heap.size, 0, none⟩) rfl _).trans' ((Fr.setCell (F := fun k => k = w.heap.size) _ (p := ⟨w.heap.size, 1, none⟩) rfl _).trans' (Fr.setCell (F := fun k => k = w.heap.size) _ (p := ⟨w.heap.size, 2, none⟩) rfl _))
    have q1 := q.set 0 (.int .i64 from_)
    have q2 := q1.set 1 (.int .i64 start)
    have q3 := q2.set 2 (.int .i64 1048576)
    refine ⟨_, b5.cell 0, _, by rw [add_g]; exact b5.cell 1, _, by rw [add_g]; exact b5.cell 2, ?_⟩
    simp only [add_g]
    refine ⟨q.has 0 (by simp), q.free 0, q1.has 1 (by simp), q1.free 1, q2.has 2 (by simp), q2.free 2, _, q3.cell 0, _, q3.cell 1, _, q3.cell 2, rfl, ?_⟩
    exact (f04.bel0.trans' ((f5.bel fun k e => by have e : k = X := e; omega).trans' (fr1.bel fun k e => by have e : k = w.heap.size := e; omega))).top
def beyC (x : Sy) (last : Int) : Prop := x.fr + 1 ≤ x.to ∧ x.fr + 1 < 1048576 ∧ x.fr + 1 ≤ last
instance (x : Sy) (last : Int) : Decidable (beyC x last) := by unfold beyC; exact inferInstance
def bey1 (x : Sy) (last c : Int) : List Sy := if beyC x last then [⟨c, x.fr + 1, 1048576⟩] else []
def beyF (f : Fl) (from_ last : Int) (x : Sy) : List Sy := if x.c ≠ from_ ∧ isF f x.c 2 = false then [] else (nearF f x.c).flatMap (bey1 x last)
theorem app_stay {w : World} {ok : Nat → Prop} {A : Option Addr} {c : Nat} {xs : List Sy} (h : Own w 58 3 ok A xs.length c (rws ycell xs)) (x : Sy) (hl : xs.length ≤ 1000000) :
    ∃ A' c' w', (Builtin.append_ #[83, 83] 83 ⟨[.slice A xs.length c, .slice (some ⟨w.heap.size, 0, none⟩) 1 1]⟩).run Tryd.prog (w.alloc (.cells ⟨[.int .i64 x.c, .int .i64 x.fr, .int .i64 x.to]⟩ 58)) = .ok (.slice A' (xs ++ [x]).length c') w' ∧ Own w' 58 3 (fun k => ok k ∨ w.heap.size ≤ k) A' (xs ++ [x]).length c' (rws ycell (xs ++ [x])) ∧ Fr (ownAt A) w w' := by
  have fa : Fr none1 w (w.alloc (.cells ⟨ycell x⟩ 58)) := Fr.alloc _ _
  have es : (w.alloc (.cells ⟨ycell x⟩ 58)).heap.size = w.heap.size + 1 := by simp
  have lit := Own.lit w 58 3 1 (ycell x) rfl (by simp [maxLen])
  obtain ⟨A', c', w', r, o, f, _⟩ := run_append (ty := 83) (m := 1) (c2 := 1) Esy (h.fr fa fun _ _ _ h => h) rfl lit.rd (ycell_one x) (by omega) (by simp only [maxLen]; omega)
  refine ⟨A', c', w', by rw [List.length_append]; exact r, ?_, (fa.mono fun _ _ h => h.elim).trans' f⟩
  rw [rws_append, rws_one, List.length_append]
  exact o.mono fun k _ hk => hk.imp id fun h => by omega
theorem bey_len (f : Fl) (from_ last : Int) (x : Sy) : (beyF f from_ last x).length ≤ 4 := by
  unfold beyF
  split
  · simp
  · have h : ∀ l : List Int, (l.flatMap (bey1 x last)).length ≤ l.length := by
      intro l
      induction l with
      | nil => simp
      | cons a l ih =>
        rw [List.flatMap_cons, List.length_append, List.length_cons]
        have : (bey1 x last a).length ≤ 1 := by unfold bey1; split <;> simp
        omega
    exact Nat.le_trans (h _) (near_len f x.c)
end
end Go.Proofs
