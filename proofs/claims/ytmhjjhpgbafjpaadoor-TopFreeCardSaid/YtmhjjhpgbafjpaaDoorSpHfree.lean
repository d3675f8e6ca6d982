/- Ways through time: the making of a search. -/
import Derived.Test.YtmhjjhpgbafjpaaDoorSpGfree
set_option linter.unusedVariables false
set_option maxRecDepth 100000
namespace Go.Proofs
open Go Go.Eng
def ofB (f : Fl) (from_ start : Int) : Bool := decide (0 ≤ from_ ∧ from_ < (f.C.size : Int) ∧ 0 ≤ start ∧ start < 1048576) && (rightF f && decide (kdF f.C from_.toNat ≠ 1))
theorem laneL_take (f : Fl) {i : Nat} (hi : i < f.C.size) : (laneL f).take (i + 1) = (laneL f).take i ++ [isF f (i : Int) 2] := by
  have := lane_get (f := f) (i := (i : Int)) (by omega)
  rw [Int.toNat_natCast] at this
  rw [List.take_add_one, this]; rfl
theorem laneL_len (f : Fl) : (laneL f).length = f.C.size := by simp [laneL]
section
variable {w0 w : World} {f : Fl} {s t m : Nat} {from_ start : Int} {i : Nat}
/-- The lane's row gets one more. -/
theorem of_k4 {R : Value → World → Prop} {B1 : (Int) × Unit → World → Prop} (hi : i < f.C.size) (hC : f.C.size ≤ 256) (hlo : w0.heap.size < m ∧ m < s) {nA lA : Option Addr} {nc lc : Nat} {vs : List Value} (h1 : Blk w s 77 [.slice nA (i + 1) nc, .slice lA i lc, .func (.func 30) ⟨[.pointer (some ⟨t, 0, none⟩)]⟩ ⟨[]⟩, .func (.func 31) ⟨[.pointer (some ⟨t, 0, none⟩)]⟩ ⟨[]⟩, .int .i64 from_, .int .i64 start, .int .i64 0, .map (some m)])
    (h2 : Own w 79 1 (fun k => s < k) nA (i + 1) nc vs) (h3 : ∀ j : Nat, j < i + 1 → ∃ Ai ci, vs[j]? = some (.slice Ai (nearF f (j : Int)).length ci) ∧ Own w 3 1 (fun k => s < k) Ai (nearF f (j : Int)).length ci (ints (nearF f (j : Int)))) (h4 : Own w 4 1 (fun k => s < k) lA i lc (bvl ((laneL f).take i))) (h5 : Mp w m 0 (fun k => k = m) (fun _ => 0) (fun _ => [])) (h6 : Blk w w0.heap.size 25 (fcell f)) (h7 : Bel w0.heap.size w0 w)
    (hB : ∀ w', SrN w0 w' f s t m from_ start (i + 1) → B1 (((i + 1 : Nat) : Int), ()) w') : S15_k4 ⟨w0.heap.size, 0, none⟩ ⟨s, 0, none⟩ (isF f (i : Int) 2) (f.C.size : Int) (i : Int) w R B1 := by
  have fa : Fr none1 w (w.alloc (.cells ⟨[.bool (isF f (i : Int) 2)]⟩ 4)) := Fr.alloc _ _
  have es : (w.alloc (.cells ⟨[.bool (isF f (i : Int) 2)]⟩ 4)).heap.size = w.heap.size + 1 := by simp
  have lit := Own.lit w 4 1 1 [.bool (isF f (i : Int) 2)] rfl (by simp [maxLen])
  have ha := h4.fr fa fun _ _ _ h => h
  obtain ⟨A', c', w', r, o, g, _⟩ := run_append (ty := 75) (m := 1) (c2 := 1) Ebo ha rfl lit.rd (fun v hv => by simp at hv; subst hv; rfl) (by omega) (by simp only [maxLen]; omega)
  have hA : ∀ k, ownAt lA k → s < k := fun k ⟨a, hq, e⟩ => e ▸ (ha.has a hq).1
  have fg : Fr (fun k => ownAt lA k) w w' := (fa.mono fun _ _ h => h.elim).trans' g
  have hsl := h1.lt
  -- the near row is another one
  have hne : ∀ k, ownAt lA k → ¬ hasTy w [79, 3, 77, 25] k := fun k ⟨a, hq, e⟩ => by
    subst e
    obtain ⟨cur, hc⟩ := h4.obj a hq
    rintro ⟨cur', t', h8, h9⟩
    rw [hc] at h8
    cases h8
    simp at h9
  have b1 := h1.fr fg fun h => hne _ h (h1.hasTy (by simp))
  obtain ⟨q1, q2, q3⟩ : (∃ u, w'.cell? ⟨s, 1, none⟩ = some u) ∧ w'.frozen? ⟨s, 1, none⟩ = false ∧ Blk (w'.setCell ⟨s, 1, none⟩ (.slice A' (i + 1) c')) s 77 [.slice nA (i + 1) nc, .slice A' (i + 1) c', .func (.func 30) ⟨[.pointer (some ⟨t, 0, none⟩)]⟩ ⟨[]⟩, .func (.func 31) ⟨[.pointer (some ⟨t, 0, none⟩)]⟩ ⟨[]⟩, .int .i64 from_, .int .i64 start, .int .i64 0, .map (some m)] := ⟨b1.has 1 (by simp), b1.free 1, b1.set 1 _⟩
  have fs : Fr (fun k => k = s) w' (w'.setCell ⟨s, 1, none⟩ (.slice A' (i + 1) c')) := Fr.setCell (F := fun k => k = s) w' rfl _
  refine ⟨_, rfl, lA, i, lc, by rw [add_g]; exact h1.cell 1, A', _, c', w', r, _, rfl, by rw [add_g]; exact q1, by rw [add_g]; exact q2, ?_⟩
  rw [add_g, IntWalk.i64_in _ (by omega)]
  refine hB _ ⟨⟨nA, nc, A', c', vs, q3, ?_, fun j hj => ?_, ?_⟩, ?_, ?_, hlo, ?_⟩
  · exact (h2.fr1 fg fun a ha h => by
      obtain ⟨cur, hc⟩ := h2.obj a ha
      exact hne _ h ⟨cur, 79, hc, by simp⟩).fr fs fun k _ h e => by have e : k = s := e; omega
  · obtain ⟨Ai, ci, r1, r2⟩ := h3 j hj
    refine ⟨Ai, ci, r1, (r2.fr1 fg fun a ha h => ?_).fr fs fun k _ h e => by have e : k = s := e; omega⟩
    obtain ⟨cur, hc⟩ := r2.obj a ha
    exact hne _ h ⟨cur, 3, hc, by simp⟩
  · rw [laneL_take f hi]
    have e : bvl ((laneL f).take i ++ [isF f (i : Int) 2]) = bvl ((laneL f).take i) ++ [.bool (isF f (i : Int) 2)] := by unfold bvl; rw [List.map_append]; rfl
    rw [e]
    exact (o.mono fun k _ hk => hk.elim id fun h => by omega).fr fs fun k _ h e => by have e : k = s := e; omega
  · exact (h5.fr fg fun k hk e h => by have e : k = m := e; have := hA k h; omega).fr fs fun k _ e e' => by have e : k = m := e; have e' : k = s := e'; omega
  · have hfl := h6.lt
    exact (h6.fr fg fun h => hne _ h (h6.hasTy (by simp))).fr fs (by omega)
  · exact h7.trans' ((fg.bel fun k h => by have := hA k h; omega).trans' (fs.bel fun k e => by have e : k = s := e; omega))
theorem of_ok (hf : FOk f) (from_ start : Int) (hst : -1000000 ≤ start ∧ start ≤ 1000000) (w : World) : Ret Tryd.prog 15 [fval f, .pointer (some ⟨t, 0, none⟩), .int .i64 from_, .int .i64 start] w fun v w' =>
    (if ofB f from_ start then ∃ s m, v = .tuple ⟨[.pointer (some ⟨s, 0, none⟩), .bool true]⟩ ∧ w.heap.size ≤ m ∧ m < s ∧ Sr w' (fun k => s ≤ k) f s t m from_ start 0 ∧ Mp w' m 0 (fun k => k = m) (fun _ => 0) (fun _ => [])
      else v = .tuple ⟨[.pointer none, .bool false]⟩) ∧ Fr none1 w w' := by
  apply S15_calls
  have b0 := Blk.new w 25 (fcell f)
  have f0 : Fr none1 w (w.alloc (.cells ⟨fcell f⟩ 25)) := Fr.alloc _ _
  have no : ∀ {w'}, Fr none1 w w' → ofB f from_ start = false → S15_k0 (some ⟨t, 0, none⟩) from_ start ⟨w.heap.size, 0, none⟩ true w' (fun v w' => (if ofB f from_ start then ∃ s m, v = .tuple ⟨[.pointer (some ⟨s, 0, none⟩), .bool true]⟩ ∧ w.heap.size ≤ m ∧ m < s ∧ Sr w' (fun k => s ≤ k) f s t m from_ start 0 ∧ Mp w' m 0 (fun k => k = m) (fun _ => 0) (fun _ => [])
      else v = .tuple ⟨[.pointer none, .bool false]⟩) ∧ Fr none1 w w') := fun f' h => by
    refine cT rfl ?_
    rw [h]
    exact ⟨rfl, f'⟩
  have sb : ¬ (0 ≤ from_ ∧ from_ < (f.C.size : Int) ∧ 0 ≤ start ∧ start < 1048576) → ofB f from_ start = false := fun h => by unfold ofB; rw [decide_eq_false h]; rfl
  refine cF rfl (cD (fun h => no f0 (sb (by omega))) fun h1 => ⟨_, b0.cell 2, cD (fun h => no f0 (sb (by omega))) fun h2 => cD (fun h => no f0 (sb (by omega))) fun h3 => cD (fun h => no f0 (sb (by omega))) fun h4 => ⟨_, b0.cell 0, _, b0.cell 1, _, b0.cell 2, ?_⟩⟩)
  refine (right_ok hf.1 hf.2.1 hf.2.2 _).use ?_
  rintro v w2 ⟨rfl, f2⟩
  refine ⟨_, rfl, ?_⟩
  have f02 := f0.trans' f2
  have b2 := b0.fr f2 fun h => h
  have hC := hf.1
  have e0 : ofB f from_ start = (rightF f && decide (kdF f.C from_.toNat ≠ 1)) := by unfold ofB; rw [decide_eq_true (show 0 ≤ from_ ∧ from_ < (f.C.size : Int) ∧ 0 ≤ start ∧ start < 1048576 by omega)]; rfl
  cases hR : rightF f with
  | false => exact cT rfl (no f02 (by rw [e0, hR]; rfl))
  | true =>
    obtain ⟨ch, hc⟩ := ba_get (C := f.C) (i := from_.toNat) (by omega)
    have hk := kdF_get hc
    have hw := kdB_wall ch
    refine cF rfl ⟨_, b2.cell 2, ch, by omega, hc, ?_⟩
    by_cases hwall : ch.toNat = 35
    · rw [decide_eq_true (show ((ch.toNat : Nat) : Int) = 35 by omega)]
      exact no f02 (by rw [e0, hR, hk, hw.2 hwall]; rfl)
    · rw [decide_eq_false (show ¬ ((ch.toNat : Nat) : Int) = 35 by omega)]
      have e1 : ofB f from_ start = true := by rw [e0, hR, decide_eq_true (show kdF f.C from_.toNat ≠ 1 by rw [hk]; exact fun h => hwall (hw.1 h))]; rfl
      rw [e1]
      refine cF rfl ?_
      unfold S15_k1
      have m3 := MR.made ycell w2 Tryd.prog 3 58 3 (fun k => k = w2.heap.size) rfl
      have g1 : Fr none1 w2 (w2.alloc (.map #[] 0)) := Fr.alloc _ _
      have es : (w2.alloc (.map #[] 0)).heap.size = w2.heap.size + 1 := by simp
      have g2 : Fr none1 (w2.alloc (.map #[] 0)) ((w2.alloc (.map #[] 0)).alloc (.cells ⟨[.slice none 0 0, .slice none 0 0, .func (.func 30) ⟨[.pointer (some ⟨t, 0, none⟩)]⟩ ⟨[]⟩, .func (.func 31) ⟨[.pointer (some ⟨t, 0, none⟩)]⟩ ⟨[]⟩, .int .i64 from_, .int .i64 start, .int .i64 0, .map (some w2.heap.size)]⟩ 77)) := Fr.alloc _ _
      have bs := Blk.new (w2.alloc (.map #[] 0)) 77 [.slice none 0 0, .slice none 0 0, .func (.func 30) ⟨[.pointer (some ⟨t, 0, none⟩)]⟩ ⟨[]⟩, .func (.func 31) ⟨[.pointer (some ⟨t, 0, none⟩)]⟩ ⟨[]⟩, .int .i64 from_, .int .i64 start, .int .i64 0, .map (some w2.heap.size)]
      have m4 := m3.fr g2 fun _ _ _ h => h
      have g12 := g1.trans' g2
      have b4 := b2.fr g12 fun h => h
      have f04 := f02.trans' g12
      have hbl := b2.lt
      rw [es] at bs ⊢
      generalize (w2.alloc (.map #[] 0)).alloc (.cells ⟨[.slice none 0 0, .slice none 0 0, .func (.func 30) ⟨[.pointer (some ⟨t, 0, none⟩)]⟩ ⟨[]⟩, .func (.func 31) ⟨[.pointer (some ⟨t, 0, none⟩)]⟩ ⟨[]⟩, .int .i64 from_, .int .i64 start, .int .i64 0, .map (some w2.heap.size)]⟩ 77) = w4 at bs m4 b4 f04 ⊢
      have N0 : SrN w w4 f (w2.heap.size + 1) t w2.heap.size from_ start 0 := ⟨⟨none, 0, none, 0, [], bs, Own.nil _ _ _ _, fun j h => by omega, Own.nil _ _ _ _⟩, m4, b4, ⟨hbl, by omega⟩, f04.bel0⟩
      generalize hS : w2.heap.size + 1 = S at N0 ⊢
      generalize hM : w2.heap.size = M at N0 ⊢
      refine ⟨_, by rw [add_g]; exact b4.cell 2, fun s' w' => ∃ i : Nat, s' = ((i : Int), ()) ∧ i ≤ f.C.size ∧ SrN w w' f S t M from_ start i, fun s' _ => f.C.size - s'.1.toNat, ⟨0, rfl, Nat.zero_le _, N0⟩, ?_⟩
      rintro J s' w5 ⟨i, rfl, hi, N⟩
      dsimp only
      refine cD (fun hlt => ?_) (fun hlt => ?_)
      · have hi' : i < f.C.size := by omega
        refine ⟨_, N.fl.cell 0, _, N.fl.cell 1, _, N.fl.cell 2, ?_⟩
        refine (zone_ok hf (i : Int) w5).use ?_
        rintro v w6 ⟨⟨z, rfl⟩, f6⟩
        have N6 := N.fr0 (f6.trans' (Fr.drew w6))
        refine ⟨_, _, rfl, _, rfl, ?_⟩
        generalize w6.drew = w7 at N6 ⊢
        refine ⟨_, N6.fl.cell 0, _, N6.fl.cell 1, _, N6.fl.cell 2, ?_⟩
        have nearc := near_ok hf (cell := (i : Int)) (by omega) w7
        -- the row of rows gets one more
        have fin : ∀ {v w8}, (∃ A c, v = Value.slice A (nearF f (i : Int)).length c ∧ Own w8 3 1 (from1 w7.heap.size) A (nearF f (i : Int)).length c (ints (nearF f (i : Int))) ∧ Fr none1 w7 w8) → ∃ A c nA nc, v = Value.slice A (nearF f (i : Int)).length c ∧ w7.cell? ⟨S, 0, none⟩ = some (.slice nA i nc) ∧ w8.cell? ⟨S, 0, none⟩ = some (.slice nA i nc) ∧ ∃ A' c' w9, (Builtin.append_ #[74, 74] 74 ⟨[.slice nA i nc, .slice (some ⟨w8.heap.size, 0, none⟩) 1 1]⟩).run Tryd.prog (w8.alloc (.cells ⟨[.slice A (nearF f (i : Int)).length c]⟩ 79)) = .ok (.slice A' (i + 1) c') w9 ∧ (∃ u, w9.cell? ⟨S, 0, none⟩ = some u) ∧ w9.frozen? ⟨S, 0, none⟩ = false ∧
            ∀ {R : Value → World → Prop} {B1 : (Int) × Unit → World → Prop}, (∀ w', SrN w w' f S t M from_ start (i + 1) → B1 (((i + 1 : Nat) : Int), ()) w') → S15_k4 ⟨w.heap.size, 0, none⟩ ⟨S, 0, none⟩ (isF f (i : Int) 2) (f.C.size : Int) (i : Int) (w9.setCell ⟨S, 0, none⟩ (.slice A' (i + 1) c')) R B1 := by
          rintro v w8 ⟨A, c, rfl, o8, f8⟩
          obtain ⟨nA, nc, lA, lc, vs, h1, h2, h3, h4⟩ := N6.sr
          have N8 := N6.fr0 f8
          have g1 := h1.fr f8 fun h => h
          have g2 := h2.fr f8 fun _ _ _ h => h
          have g4 := h4.fr f8 fun _ _ _ h => h
          have hSl := h1.lt
          have hs8 := f8.size
          have fa : Fr none1 w8 (w8.alloc (.cells ⟨[.slice A (nearF f (i : Int)).length c]⟩ 79)) := Fr.alloc _ _
          have es8 : (w8.alloc (.cells ⟨[.slice A (nearF f (i : Int)).length c]⟩ 79)).heap.size = w8.heap.size + 1 := by simp
          have lit := Own.lit w8 79 1 1 [.slice A (nearF f (i : Int)).length c] rfl (by simp [maxLen])
          have ga := g2.fr fa fun _ _ _ h => h
          obtain ⟨A', c', w9, r9, o9, f9, _⟩ := run_append (ty := 74) (m := 1) (c2 := 1) Enr ga rfl lit.rd (fun v hv => by simp at hv; subst hv; rfl) (by omega) (by simp only [maxLen]; omega)
          have hA : ∀ k, ownAt nA k → S < k := fun k ⟨a, hq, e⟩ => e ▸ (ga.has a hq).1
          have fg : Fr (fun k => ownAt nA k) w8 w9 := (fa.mono fun _ _ h => h.elim).trans' f9
          have hne : ∀ k, ownAt nA k → ¬ hasTy w8 [4, 3, 77, 25] k := fun k ⟨a, hq, e⟩ => by
            subst e
            obtain ⟨cur, hc⟩ := g2.obj a hq
            rintro ⟨cur', t', h8, h9⟩
            rw [hc] at h8
            cases h8
            simp at h9
          have b9 := g1.fr fg fun h => hne _ h (g1.hasTy (by simp))
          have fs : Fr (fun k => k = S) w9 (w9.setCell ⟨S, 0, none⟩ (.slice A' (i + 1) c')) := Fr.setCell (F := fun k => k = S) w9 rfl _
          refine ⟨A, c, nA, nc, rfl, h1.cell 0, g1.cell 0, A', c', w9, r9, b9.has 0 (by simp), b9.free 0, fun hB => ?_⟩
          refine of_k4 hi' hC N.lo (b9.set 0 _) ((o9.mono (ok' := fun k => S < k) fun k _ h => h.elim id fun h => by omega).fr fs fun k _ h e => by have e : k = S := e; omega) (fun j hj => ?_) ?_ ?_ ?_ ?_ hB
          · have vl : vs.length = i := by have := h2.1; omega
            by_cases e : j = i
            · subst e
              refine ⟨A, c, by rw [List.getElem?_append_right (by omega), vl]; simp, ?_⟩
              refine ((o8.fr1 fg fun a ha h => ?_).mono (ok' := fun k => S < k) fun k _ h => by have h : w7.heap.size ≤ k := h; omega).fr fs fun k _ h e => by have e : k = S := e; omega
              obtain ⟨cur, hc⟩ := o8.obj a ha
              exact hne _ h ⟨cur, 3, hc, by simp⟩
            · obtain ⟨Ai, ci, r1, r2⟩ := h3 j (by omega)
              refine ⟨Ai, ci, by rw [List.getElem?_append_left (by omega)]; exact r1, ?_⟩
              have r3 := r2.fr f8 fun _ _ _ h => h
              refine (r3.fr1 fg fun a ha h => ?_).fr fs fun k _ h e => by have e : k = S := e; omega
              obtain ⟨cur, hc⟩ := r3.obj a ha
              exact hne _ h ⟨cur, 3, hc, by simp⟩
          · refine (g4.fr1 fg fun a ha h => ?_).fr fs fun k _ h e => by have e : k = S := e; omega
            obtain ⟨cur, hc⟩ := g4.obj a ha
            exact hne _ h ⟨cur, 4, hc, by simp⟩
          · have := N.lo
            exact (N8.mp.fr fg fun k hk e h => by have e : k = M := e; have := hA k h; omega).fr fs fun k _ e e' => by have e : k = M := e; have e' : k = S := e'; omega
          · have := N8.fl.lt
            have := N.lo
            exact (N8.fl.fr fg fun h => hne _ h (N8.fl.hasTy (by simp))).fr fs (by omega)
          · have := N.lo
            exact N8.bel.trans' ((fg.bel fun k h => by have := hA k h; omega).trans' (fs.bel fun k e => by have e : k = S := e; omega))
        refine ⟨?_, ?_⟩
        · obtain ⟨nA, nc, lA, lc, vs, h1, _⟩ := N6.sr
          refine ⟨nA, i, nc, h1.cell 0, ?_⟩
          refine nearc.use ?_
          intro v w8 hv
          obtain ⟨A, c, nA', nc', e, e7, e8, A', c', w9, r9, u9, z9, k9⟩ := fin hv
          have e7' := (h1.cell 0).symm.trans e7
          cases e7'
          refine ⟨A, _, c, by rw [e], A', _, c', w9, r9, _, rfl, u9, z9, k9 fun w' hN => ?_⟩
          exact ⟨⟨i + 1, rfl, by omega, hN⟩, by dsimp only; omega⟩
        · refine nearc.use ?_
          intro v w8 hv
          obtain ⟨A, c, nA', nc', e, e7, e8, A', c', w9, r9, u9, z9, k9⟩ := fin hv
          refine ⟨A, _, c, by rw [e], nA', i, nc', e8, A', _, c', w9, r9, _, rfl, u9, z9, k9 fun w' hN => ?_⟩
          exact ⟨⟨i + 1, rfl, by omega, hN⟩, by dsimp only; omega⟩
      · have e : i = f.C.size := by omega
        subst e
        obtain ⟨nA, nc, lA, lc, vs, h1, h2, h3, h4⟩ := N.sr
        have hlo := N.lo
        refine ⟨⟨S, M, rfl, by omega, hlo.2, ⟨Nat.le_refl _, nA, nc, lA, lc, vs, h1, h2.mono fun k _ h => Nat.le_of_lt h, fun j hj => ?_, ?_⟩, N.mp⟩, N.bel.top⟩
        · obtain ⟨Ai, ci, r1, r2⟩ := h3 j hj
          exact ⟨Ai, ci, r1, r2.rd.mono fun k _ h => ⟨Nat.le_of_lt h, Nat.ne_of_gt h⟩⟩
        · have := h4.mono (ok' := fun k => S ≤ k) fun k _ h => Nat.le_of_lt h
          rw [List.take_of_length_le (by rw [laneL_len]; exact Nat.le_refl _)] at this
          exact this
end
end Go.Proofs
