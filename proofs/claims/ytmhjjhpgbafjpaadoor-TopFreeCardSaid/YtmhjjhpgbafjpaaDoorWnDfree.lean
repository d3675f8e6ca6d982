/- Tables of windows: what is let go; when a cell is free. -/
import Derived.Test.YtmhjjhpgbafjpaaDoorWnCfree
set_option linter.unusedVariables false
set_option maxRecDepth 100000
namespace Go.Proofs
open Go Go.Eng
theorem wn_eqIn (x y : Wn) (w : World) : (Op.equalIn 10000 33 (.agg #[.int .i64 x.1, .int .i64 x.2]) (.agg #[.int .i64 y.1, .int .i64 y.2])).run Tryd.prog w = .ok (decide (x = y)) w := by
  have u3 := Tryd.underlying3
  have a3 := Tryd.isAgg3
  have z3 := Tryd.sizeOf3
  have hS : Tryd.prog.underlying 33 = some (.struct (Tryd.prog.fieldsOf 33)) := by kernel_rfl
  have hp : Tryd.prog.stoodInHeld 33 = false := by kernel_rfl
  have hx : decide (x = y) = (x.1 == y.1 && x.2 == y.2) := by
    rw [Bool.eq_iff_iff]
    cases x
    cases y
    simp
  rw [hx]
  generalize x.1 = a0
  generalize y.1 = b0
  generalize x.2 = a1
  generalize y.2 = b1
  rw [show (10000 : Nat) = 9999 + 1 from rfl, run_equalIn_agg w 9999 33 _ _ hS hp]
  simp only [Program.fieldsOf, Tryd.underlying33]
  go_simp
  by_cases h0 : a0 = b0 <;> by_cases h1 : a1 = b1 <;> simp [h0, h1]
theorem wn_eq (x y : Wn) (p q : Operand) (w : World) : (do eqGuard .eql 33 p q (.agg ⟨[.int .i64 x.1, .int .i64 x.2]⟩) (.agg ⟨[.int .i64 y.1, .int .i64 y.2]⟩); binOp .eql 33 (.agg ⟨[.int .i64 x.1, .int .i64 x.2]⟩) (.agg ⟨[.int .i64 y.1, .int .i64 y.2]⟩)).run Tryd.prog w = .ok (.bool (decide (x = y))) w := by
  rw [Sem.run_bind, run_eqGuard_agg w _ _ _ _ _ _ (by kernel_rfl)]
  show (binOp .eql 33 _ _).run Tryd.prog w = _
  rw [run_eql_struct, wn_eqIn]
  rfl
/-- The first one is it. -/
theorem windex_ok {w : World} {ok : Nat → Prop} {A : Option Addr} {c : Nat} {x : Wn} {ws : List Wn} (h : Rd w ok A (rws it2 (x :: ws))) : Ret Tryd.prog 13 [.slice A (x :: ws).length c, .agg ⟨it2 x⟩] w fun v w' => v = .int .i64 0 ∧ Fr none1 w w' := by
  apply S13_calls
  have b0 := Blk.new w 33 (it2 x)
  have f0 : Fr none1 w (w.alloc (.cells ⟨it2 x⟩ 33)) := Fr.alloc _ _
  have h0 := (h.mono (ok' := fun k => k < w.heap.size) fun k hk _ => hk).fr f0 fun _ _ _ h => h
  refine ⟨fun s w' => s = ((0 : Int), ()) ∧ w' = w.alloc (.cells ⟨it2 x⟩ 33), fun _ _ => 0, ⟨rfl, rfl⟩, ?_⟩
  rintro J s w1 ⟨rfl, rfl⟩
  dsimp only
  refine cT (decide_eq_true (by simp)) ?_
  have fd : Fr none1 _ (w.alloc (.cells ⟨it2 x⟩ 33)).drew := Fr.drew _
  have b1 := b0.fr fd fun h => h
  have h1 := h0.fr fd fun _ _ _ h => h
  obtain ⟨t, ht, c0, c1⟩ := row2 h1 (i := 0) (x := x) rfl
  refine ⟨_, b1.cell 0, _, b1.cell 1, t, ht, by omega, by simp, _, c0, _, c1, _, _, wn_eq x x _ _ _, ?_⟩
  rw [decide_eq_true rfl]
  exact cT rfl ⟨rfl, f0.trans' fd⟩
theorem wdelete_ok {w : World} {ok : Nat → Prop} {A : Option Addr} {c : Nat} {ws : List Wn} (h : Own w 33 2 ok A ws.length c (rws it2 ws)) (hl : ws.length ≤ 100000) {n : Nat} (hn : n < ws.length) : Ret Tryd.prog 14 [.slice A ws.length c, .int .i64 (n : Int), .int .i64 ((n : Int) + 1)] w fun v w' =>
    v = .slice A (ws.eraseIdx n).length c ∧ Own w' 33 2 ok A (ws.eraseIdx n).length c (rws it2 (ws.eraseIdx n)) ∧ Fr (ownAt A) w w' := by
  have hlc := h.le
  apply S14_calls
  refine ⟨by omega, by omega, by omega, by simp; omega, by omega, by simp; omega, ?_⟩
  refine cD (fun e => by omega) (fun _ => ?_)
  refine ⟨by omega, by omega, by omega, by omega, ?_⟩
  have e1 : Int.toNat (n : Int) - 0 = n := by simp
  have e2 : Int.toNat ((n : Int) + 1) = n + 1 := by omega
  have e3 : Int.toNat (ws.length : Int) = ws.length := by simp
  rw [e1, e2, slAddr_zero, Nat.sub_zero]
  have ht := (h.take (n := n) (by omega)).fr (Fr.drew (F := none1) w) fun _ _ _ h => h
  have hlen := h.1
  have hd : Rd w.drew ok (slAddr A c (n + 1) 2) ((rws it2 ws).drop ((n + 1) * 2)) := (h.rd.drop (m := c) (l := n + 1) (by rw [hlen]; omega)).fr (Fr.drew (F := none1) w) fun _ _ _ h => h
  rw [rws_drop it2_len] at hd
  rw [rws_take it2_len] at ht
  obtain ⟨A', c', w', hr, ho, hf, hroom⟩ := run_append (ty := 46) (m := ws.length - (n + 1)) (c2 := c - (n + 1)) Ewn ht (by rw [rws_length it2_len, List.length_drop]) hd (rws_cells it2_one _) (by omega) (by simp only [maxLen]; omega)
  obtain ⟨rfl, rfl⟩ := hroom (by omega)
  have hl1 : n + (ws.length - (n + 1)) = (ws.eraseIdx n).length := by rw [List.length_eraseIdx, if_pos hn]; omega
  rw [hl1, ← rws_eraseIdx] at ho
  rw [hl1] at hr
  have hle2 : (ws.eraseIdx n).length ≤ ws.length := by rw [List.length_eraseIdx, if_pos hn]; omega
  obtain ⟨w2, hr2, ho2, hf2⟩ := run_clearN (ty := 0) (n := ws.length) Ewn.ut Zwn rfl (by decide) (it2_one (0, 0)) (ho.ok fun a ha => (h.has a ha).1) hle2 hlc
  have e4 : Int.toNat (((ws.eraseIdx n).length : Nat) : Int) = (ws.eraseIdx n).length := by simp
  refine ⟨A', _, c', w', hr, by omega, by omega, by omega, by omega, ?_⟩
  rw [e4, e3]
  exact ⟨w2, hr2, rfl, ho2, (Fr.drew w).trans' (hf.trans' hf2)⟩
section
variable {w : World} {ok : Nat → Prop} {cof : Nat → Int} {t n : Nat} {f : Int → List Wn}
theorem wdrop_ok (h : Tab w ok cof t n f) {cell : Int} (hc : IntKind.i64.min ≤ cell ∧ cell ≤ IntKind.i64.max) (hn : n < 1000000) {x : Wn} {rest : List Wn} (hx : f cell = x :: rest) (hl : (f cell).length ≤ 100000) : Ret Tryd.prog 7 [.pointer (some ⟨t, 0, none⟩), .int .i64 cell, .agg ⟨it2 x⟩] w fun v w' =>
    v = .int .i64 0 ∧ ∃ cof', Tab w' (fun k => ok k ∨ w.heap.size ≤ k) cof' t (n + 1) (updF f cell rest) ∧ Fr ok w w' := by
  apply S7_calls
  have b0 := Blk.new w 33 (it2 x)
  have f0 : Fr none1 w (w.alloc (.cells ⟨it2 x⟩ 33)) := Fr.alloc _ _
  have fd : Fr none1 (w.alloc (.cells ⟨it2 x⟩ 33)) (w.alloc (.cells ⟨it2 x⟩ 33)).drew := Fr.drew _
  have f1 := f0.trans' fd
  have b1 := b0.fr fd fun h => h
  refine cF rfl ?_
  unfold S7_k0
  have h1 := (h.mono (ok' := fun k => ok k ∧ k < w.heap.size) fun k hk h => ⟨h, hk⟩).fr f1 fun _ _ _ h => h
  show ∃ t11, _ ∧ ∃ t13, World.cell? (w.alloc (.cells ⟨it2 x⟩ 33)).drew _ = _ ∧ _
  have b1c0 := b1.cell 0
  have b1c1 := b1.cell 1
  clear b0 b1
  obtain ⟨g0, m, g1, g2⟩ := h1
  obtain ⟨A, cp, r, o⟩ := g2.look uInt uMw (Zwl _) hc
  have ox := o.rd
  rw [hx] at ox
  have ix := windex_ok (c := cp) ox
  rw [← hx] at ix
  -- behind the look
  have k1 : ∀ {w2}, Fr none1 (w.alloc (.cells ⟨it2 x⟩ 33)).drew w2 → S7_k1 (some ⟨t, 0, none⟩) cell 0 w2 (fun v w' => v = .int .i64 0 ∧ ∃ cof', Tab w' (fun k => ok k ∨ w.heap.size ≤ k) cof' t (n + 1) (updF f cell rest) ∧ Fr ok w w') := by
    intro w2 f2
    refine cF (by decide) ?_
    unfold S7_k2
    have f2d := f2.trans' (Fr.drew w2)
    have q1 := g1.fr f2d fun h => h
    have q2 := g2.fr f2d fun _ _ _ h => h
    have f02 := f1.trans' f2d
    generalize w2.drew = w3 at q1 q2 f02 ⊢
    have hs3 := f02.size
    obtain ⟨A3, cp3, r3, o3⟩ := q2.look uInt uMw (Zwl _) hc
    have del := wdelete_ok o3 hl (n := 0) (by rw [hx]; simp)
    have ee : (f cell).eraseIdx 0 = rest := by rw [hx]; rfl
    rw [ee] at del
    have ew : IntKind.i64.wrap ((0 : Int) + 1) = ((0 : Nat) : Int) + 1 := by rw [IntWalk.i64_in _ (by omega)]; rfl
    have fin : ∀ {v w4}, (v = Value.slice A3 rest.length cp3 ∧ Own w4 33 2 (fun k => (ok k ∧ k < w.heap.size) ∧ k ≠ m ∧ cof k = cell) A3 rest.length cp3 (rws it2 rest) ∧ Fr (ownAt A3) w3 w4) →
        v = .slice A3 rest.length cp3 ∧ w4.cell? ⟨t, 0, none⟩ = some (.map (some m)) ∧ ∃ w5, (Instr.mapUpdate 42 (.map (some m)) (.int .i64 cell) (.slice A3 rest.length cp3)).run Tryd.prog w4 = .ok () w5 ∧ (Value.int .i64 0 = .int .i64 0 ∧ ∃ cof', Tab w5 (fun k => ok k ∨ w.heap.size ≤ k) cof' t (n + 1) (updF f cell rest) ∧ Fr ok w w5) := by
      rintro v w4 ⟨rfl, o4, f4⟩
      have hA : ∀ k, ownAt A3 k → (ok k ∧ k < w.heap.size) ∧ k ≠ m ∧ cof k = cell := fun k ⟨a, ha, e⟩ => e ▸ (o3.has a ha).1
      have k4 := q1.fr f4 fun ⟨a, ha, e⟩ => o3.ne_blk q1 (by decide) a ha e
      obtain ⟨w5, r5, M5, f5⟩ := q2.put uInt uMw (by simp only [maxLen]; omega) hc f4 (fun k _ hk => hA k hk) (o4.mono fun k _ h => .inl h)
      refine ⟨rfl, k4.cell 0, w5, r5, rfl, _, ⟨.inl h.1, m, ?_, M5.mono fun k hk h => h.imp (fun h => h.1) fun h => by omega⟩, ?_⟩
      · have hnm : t ≠ m := fun e => by
          obtain ⟨_, c9, g9, i9, _⟩ := q2
          exact i9.ne_blk q1 e.symm
        refine q1.fr f5 ?_
        rintro (⟨a, ha, e⟩ | e)
        · exact o3.ne_blk q1 (by decide) a ha e
        · exact hnm e
      · exact (f02.mono fun _ _ h => h.elim).trans' (f5.mono fun k _ h => h.elim (fun h => (hA k h).1.1) fun e => by have e : k = m := e; subst e; exact g2.1.1)
    refine ⟨_, rfl, _, rfl, _, q1.cell 0, ⟨_, q1.cell 0, A3, _, cp3, w3, r3, ?_⟩, ⟨A3, _, cp3, w3, r3, ⟨_, q1.cell 0, ?_⟩, ?_⟩⟩
    · rw [ew]
      refine del.use ?_
      intro v w4 hv
      obtain ⟨e, _, w5, r5, hR⟩ := fin hv
      exact ⟨A3, _, cp3, by rw [e], w5, r5, hR⟩
    · rw [ew]
      refine del.use ?_
      intro v w4 hv
      obtain ⟨e, _, w5, r5, hR⟩ := fin hv
      exact ⟨A3, _, cp3, by rw [e], w5, r5, hR⟩
    · rw [ew]
      refine del.use ?_
      intro v w4 hv
      obtain ⟨e, q, w5, r5, hR⟩ := fin hv
      exact ⟨A3, _, cp3, by rw [e], _, q, w5, r5, hR⟩
  refine ⟨_, rfl, _, g1.cell 0, ⟨A, _, cp, _, r, _, b1c0, _, b1c1, ?_⟩, ⟨_, b1c0, _, b1c1, A, _, cp, _, r, ?_⟩⟩
  · refine ix.use ?_
    rintro v w2 ⟨rfl, f2⟩
    exact ⟨_, rfl, k1 f2⟩
  · refine ix.use ?_
    rintro v w2 ⟨rfl, f2⟩
    exact ⟨_, rfl, k1 f2⟩
/-- A cell of which nothing is taken is free all the time. -/
theorem wfree_ok (h : Tab w ok cof t n f) {cell : Int} (hc : IntKind.i64.min ≤ cell ∧ cell ≤ IntKind.i64.max) (hx : f cell = []) : Ret Tryd.prog 30 [.pointer (some ⟨t, 0, none⟩), .int .i64 cell] w fun v w' =>
    ∃ A c, v = .slice A 1 c ∧ Own w' 33 2 (from1 w.heap.size) A 1 c (rws it2 [(0, 1048576)]) ∧ Fr none1 w w' := by
  apply S30_calls
  refine cF rfl ?_
  obtain ⟨p1, p2, p3, p4, b1, f1⟩ := cp2 w 33 (.int .i64 0) (.int .i64 0) (.int .i64 0) (.int .i64 1048576)
  refine ⟨p1, p2, p3, p4, ?_⟩
  have h1 := h.fr f1 fun _ _ _ h => h
  generalize World.setCell _ _ _ = w1 at b1 f1 h1 ⊢
  obtain ⟨g0, m, g1, g2⟩ := h1
  obtain ⟨A, cp, r, o⟩ := g2.look uInt uMw (Zwl _) hc
  rw [hx] at r
  refine ⟨_, rfl, _, g1.cell 0, A, _, cp, w1, r, fun s w' => s = ((none, 0, 0), (0 : Int), ()) ∧ w' = w1, fun _ _ => 0, ⟨rfl, rfl⟩, ?_⟩
  rintro J s w2 ⟨rfl, rfl⟩
  dsimp only
  refine cF (decide_eq_false (by simp)) ⟨_, b1.cell 0, _, b1.cell 1, cT (by decide) ⟨_, b1.cell 0, _, b1.cell 1, ?_⟩⟩
  have fa : Fr none1 w2 (w2.alloc (.cells ⟨it2 (0, 1048576)⟩ 33)) := Fr.alloc _ _
  have lit := Own.lit w2 33 2 1 (it2 (0, 1048576)) rfl (by simp [maxLen])
  obtain ⟨A', c', w', r', o', f', _⟩ := run_append (ty := 46) (m := 1) (c2 := 1) Ewn (Own.nil (w2.alloc (.cells ⟨it2 (0, 1048576)⟩ 33)) 33 2 none1) rfl lit.rd (it2_one (0, 1048576)) (by omega) (by simp only [maxLen]; omega)
  have hs1 := f1.size
  have hs2 := fa.size
  refine ⟨A', _, c', w', r', A', c', rfl, o'.mono fun k _ h => h.elim (fun h => h.elim) fun h => ?_, f1.trans' (fa.trans' (f'.mono fun k _ ⟨a, ha, _⟩ => by cases ha))⟩
  show w.heap.size ≤ k
  omega
end
end Go.Proofs
