/- Tables of windows: what is taken behind all others, and let go first. -/
import Derived.Test.YtmhjjhpgbafjpaaDoorHpDfree
import Derived.Test.YtmhjjhpgbafjpaaDoorMapR
import Derived.Test.YtmhjjhpgbafjpaaDoorHp8
set_option linter.unusedVariables false
namespace Go.Eng
open Go
theorem Blk.eqV' {w : World} {a : Nat} {t u : TypeId} {xs ys : List Value} (h : Blk w a t xs) (h' : Blk w a u ys) : xs = ys := by
  have := h.symm.trans h'
  cases this
  rfl
end Go.Eng
namespace Go.Proofs
open Go Go.Eng
abbrev Wn := Int × Int
theorem Ewn : ElT Tryd.prog 46 33 2 16 := elT_of (by kernel_rfl)
theorem Zwn (w : World) : (zeroValue 33).run Tryd.prog w = .ok (.agg #[.int .i64 0, .int .i64 0]) w := by kernel_rfl
theorem Zwl (w : World) : (zeroValue 46).run Tryd.prog w = .ok (.slice none 0 0) w := by kernel_rfl
theorem it2_len (p : Int × Int) : (it2 p).length = 2 := rfl
theorem it2_one (p : Int × Int) : ∀ v ∈ it2 p, v.oneCell' = true := by
  intro v hv
  simp [it2] at hv
  rcases hv with rfl | rfl <;> rfl
theorem row2 {w : World} {ok : Nat → Prop} {A : Option Addr} {xs : List (Int × Int)} {i : Nat} {x : Int × Int} (h : Rd w ok A (rws it2 xs)) (hx : xs[i]? = some x) : ∃ t, A = some t ∧ w.cell? (t.add (i * 2)) = some (.int .i64 x.1) ∧ w.cell? ((t.add (i * 2)).add 1) = some (.int .i64 x.2) := by
  have q : ∀ j (v : Value), j < 2 → (it2 x)[j]? = some v → ∃ t, A = some t ∧ w.cell? ((t.add (i * 2)).add j) = some v := fun j v hj hv => by
    have e := rws_get it2_len hx (j := j) hj
    obtain ⟨t, ht, _, hc⟩ := h.at (e.trans hv)
    exact ⟨t, ht, by rw [add_add]; exact hc⟩
  obtain ⟨t, ht, c0⟩ := q 0 _ (by decide) rfl
  obtain ⟨t1, ht1, c1⟩ := q 1 _ (by decide) rfl
  rw [ht] at ht1
  cases ht1
  rw [add_zero'] at c0
  exact ⟨t, ht, c0, c1⟩
theorem wright_ok (a b : Int) (w : World) : Ret Tryd.prog 10 [.agg ⟨[.int .i64 a, .int .i64 b]⟩] w fun v w' => v = .bool (decide (0 ≤ a ∧ a < b ∧ b ≤ 1048576)) ∧ Fr none1 w w' := by
  apply S10_calls
  have b0 := Blk.new w 33 [.int .i64 a, .int .i64 b]
  have f0 : Fr none1 w (w.alloc (.cells ⟨[.int .i64 a, .int .i64 b]⟩ 33)) := Fr.alloc _ _
  refine ⟨_, b0.cell 0, cD (fun h1 => ⟨_, b0.cell 0, _, b0.cell 1, cD (fun h2 => ⟨_, b0.cell 1, ?_, f0⟩) (fun h2 => ⟨?_, f0⟩)⟩) (fun h1 => ⟨?_, f0⟩)⟩
  · congr 1; rw [decide_eq_decide]; omega
  · rw [decide_eq_false (by omega)]
  · rw [decide_eq_false (by omega)]
theorem wcmp_ok (a b m : Int) (w : World) : Ret Tryd.prog 27 [.agg ⟨[.int .i64 a, .int .i64 b]⟩, .int .i64 m] w fun v w' => v = .int .i64 (if b ≤ m then -1 else 1) ∧ Fr none1 w w' := by
  apply S27_calls
  have b0 := Blk.new w 33 [.int .i64 a, .int .i64 b]
  have f0 : Fr none1 w (w.alloc (.cells ⟨[.int .i64 a, .int .i64 b]⟩ 33)) := Fr.alloc _ _
  refine ⟨_, b0.cell 1, cD (fun h => ⟨by rw [if_pos h], f0⟩) (fun h => ⟨by rw [if_neg h], f0⟩)⟩
/-- All windows end ahead of the moment: the place is behind them. -/
theorem wsearch_ok {w : World} {ok : Nat → Prop} {A : Option Addr} {c : Nat} {ws : List Wn} (h : Rd w ok A (rws it2 ws)) (hl : ws.length ≤ 100000) {m : Int} (hm : ∀ x ∈ ws, x.2 ≤ m) : Ret Tryd.prog 26 [.slice A ws.length c, .int .i64 m, .func (.func 27) ⟨[]⟩ ⟨[]⟩] w fun v w' => v = .tuple ⟨[.int .i64 (ws.length : Int), .bool false]⟩ ∧ Fr none1 w w' := by
  apply S26_f27_calls
  have h0 := h.mono (ok' := fun k => k < w.heap.size) fun k hk _ => hk
  refine ⟨fun s w' => ∃ i : Nat, s = ((i : Int), (ws.length : Int), ()) ∧ i ≤ ws.length ∧ Fr none1 w w', fun s _ => ws.length - s.1.toNat, ⟨0, rfl, Nat.zero_le _, Fr.refl _ _⟩, ?_⟩
  rintro J s w1 ⟨i, rfl, hi, f1⟩
  dsimp only
  have h1 := h0.fr f1 fun _ _ _ h => h
  refine cD (fun hlt => ?_) (fun hlt => ?_)
  · have hlt' : i < ws.length := by omega
    have em : (IntKind.i64.wrap (Int.fdiv (IntKind.u64.wrap (IntKind.i64.wrap ((i : Int) + (ws.length : Int)))) (2 ^ (min (Int.toNat 1) (IntKind.u64.bits))))) = (((i + ws.length) / 2 : Nat) : Int) := by
      have e0 : IntKind.i64.wrap ((i : Int) + (ws.length : Int)) = (i : Int) + (ws.length : Int) := IntWalk.i64_in _ (by omega)
      rw [e0]
      have e1 : IntKind.u64.wrap ((i : Int) + (ws.length : Int)) = ((i + ws.length : Nat) : Int) := by
        simp [IntKind.wrap, IntKind.bits, IntKind.signed]; omega
      rw [e1]
      have e2 : Int.fdiv ((i + ws.length : Nat) : Int) (2 ^ (min (Int.toNat 1) (IntKind.u64.bits))) = (((i + ws.length) / 2 : Nat) : Int) := by
        have : (2 : Int) ^ (min (Int.toNat 1) (IntKind.u64.bits)) = 2 := by decide
        rw [this, Int.fdiv_eq_ediv_of_nonneg _ (by decide)]; omega
      rw [e2, IntWalk.i64_in _ (by omega)]
    unfold S26_f27_k1
    rw [em]
    have hj : (i + ws.length) / 2 < ws.length := by omega
    generalize hjj : (i + ws.length) / 2 = j at hj
    have hx : ws[j]? = some ws[j] := List.getElem?_eq_getElem hj
    have hxm := hm _ (List.getElem_mem hj)
    generalize ws[j] = x at hx hxm
    obtain ⟨t, ht, c0, c1⟩ := row2 h1 hx
    refine ⟨by decide, t, ht, by omega, by omega, _, by rw [Int.toNat_natCast]; exact c0, _, by rw [Int.toNat_natCast]; exact c1, ?_⟩
    refine (wcmp_ok x.1 x.2 m w1).use ?_
    rintro v w2 ⟨rfl, f2⟩
    rw [if_pos hxm]
    refine ⟨_, rfl, cT rfl ?_⟩
    rw [IntWalk.i64_in _ (by omega)]
    exact ⟨⟨j + 1, rfl, by omega, f1.trans' f2⟩, by dsimp only; omega⟩
  · have e : i = ws.length := by omega
    refine cF (decide_eq_false (by omega)) ⟨by rw [e], f1⟩
/-- A table: its windows by cells. -/
def Tab (w : World) (ok : Nat → Prop) (cof : Nat → Int) (t n : Nat) (f : Int → List Wn) : Prop :=
  ok t ∧ ∃ m, Blk w t 44 [.map (some m)] ∧ MR it2 w Tryd.prog 3 33 2 m n ok cof f
theorem Tab.fr {w w' : World} {ok : Nat → Prop} {cof : Nat → Int} {t n : Nat} {f : Int → List Wn} {F : Nat → Prop} (h : Tab w ok cof t n f) (hf : Fr F w w') (hd : ∀ k, k < w.heap.size → ok k → ¬ F k) : Tab w' ok cof t n f := by
  obtain ⟨h0, m, h1, h2⟩ := h
  exact ⟨h0, m, h1.fr hf (hd t h1.lt h0), h2.fr hf hd⟩
theorem Tab.mono {w : World} {ok ok' : Nat → Prop} {cof : Nat → Int} {t n : Nat} {f : Int → List Wn} (h : Tab w ok cof t n f) (hk : ∀ k, k < w.heap.size → ok k → ok' k) : Tab w ok' cof t n f := by
  obtain ⟨h0, m, h1, h2⟩ := h
  exact ⟨hk t h1.lt h0, m, h1, h2.mono hk⟩
theorem wnew_ok (w : World) : Ret Tryd.prog 5 [] w fun v w' => ∃ t, v = .pointer (some ⟨t, 0, none⟩) ∧ Tab w' (from1 w.heap.size) (fun _ => 0) t 0 (fun _ => []) ∧ Fr none1 w w' := by
  apply S5_calls
  have f1 : Fr none1 (w.alloc (.map #[] 0)) ((w.alloc (.map #[] 0)).alloc (.cells ⟨[.map (some w.heap.size)]⟩ 44)) := Fr.alloc _ _
  have f0 : Fr none1 w (w.alloc (.map #[] 0)) := Fr.alloc _ _
  have es : (w.alloc (.map #[] 0)).heap.size = w.heap.size + 1 := by simp
  refine ⟨_, rfl, ⟨?_, w.heap.size, Blk.new _ 44 _, ?_⟩, f0.trans' f1⟩
  · show w.heap.size ≤ (w.alloc (.map #[] 0)).heap.size
    omega
  · exact (MR.made it2 w Tryd.prog 3 33 2 (from1 w.heap.size) (Nat.le_refl _)).fr f1 fun _ _ _ h => h
section
variable {w : World} {ok : Nat → Prop} {cof : Nat → Int} {t n : Nat} {f : Int → List Wn}
theorem uInt : Tryd.prog.underlying 3 = some (.int .i64) := by kernel_rfl
theorem uMw : Tryd.prog.underlying 42 = some (.map 3 46) := by kernel_rfl
theorem wplace_ok (h : Tab w ok cof t n f) {cell m : Int} (hc : IntKind.i64.min ≤ cell ∧ cell ≤ IntKind.i64.max) (hl : (f cell).length ≤ 100000) (hm : ∀ x ∈ f cell, x.2 ≤ m) : Ret Tryd.prog 11 [.pointer (some ⟨t, 0, none⟩), .int .i64 cell, .int .i64 m] w fun v w' => v = .int .i64 ((f cell).length : Int) ∧ Fr none1 w w' := by
  obtain ⟨h0, mm, h1, h2⟩ := h
  apply S11_calls
  obtain ⟨A, cp, r, o⟩ := h2.look uInt uMw (Zwl w) hc
  refine ⟨_, rfl, _, h1.cell 0, A, _, cp, w, r, ?_⟩
  refine (wsearch_ok o.rd hl hm).use ?_
  rintro v w1 ⟨rfl, f1⟩
  exact ⟨_, _, rfl, rfl, f1⟩
theorem winsert_ok {w : World} {ok ok2 : Nat → Prop} {A A2 : Option Addr} {c : Nat} {ws : List Wn} (h : Own w 33 2 ok A ws.length c (rws it2 ws)) (hl : ws.length ≤ 100000) {x : Wn} (hx : Rd w ok2 A2 (it2 x)) : Ret Tryd.prog 12 [.slice A ws.length c, .int .i64 (ws.length : Int), .slice A2 1 1] w fun v w' =>
    ∃ A' c', v = .slice A' (ws ++ [x]).length c' ∧ Own w' 33 2 (fun k => ok k ∨ w.heap.size ≤ k) A' (ws ++ [x]).length c' (rws it2 (ws ++ [x])) ∧ Fr (ownAt A) w w' := by
  apply S12_calls
  obtain ⟨A', c', w', r, o, f, _⟩ := run_append (ty := 46) (m := 1) (c2 := 1) Ewn h rfl hx (it2_one x) (by omega) (by simp only [maxLen]; omega)
  refine ⟨by omega, by omega, cF (by decide) (cT (by simp) ⟨A', _, c', w', r, A', c', by simp, ?_, f⟩)⟩
  rw [rws_append, rws_one, List.length_append]
  exact o
theorem wtake_ok (h : Tab w ok cof t n f) {cell : Int} (hc : IntKind.i64.min ≤ cell ∧ cell ≤ IntKind.i64.max) (hl : (f cell).length < 4096) (hn : n < 1000000) {x : Wn} (hx : 0 ≤ x.1 ∧ x.1 < x.2 ∧ x.2 ≤ 1048576) (hm : ∀ y ∈ f cell, y.2 ≤ x.1) : Ret Tryd.prog 6 [.pointer (some ⟨t, 0, none⟩), .int .i64 cell, .agg ⟨it2 x⟩] w fun v w' =>
    v = .int .i64 0 ∧ ∃ cof', Tab w' (fun k => ok k ∨ w.heap.size ≤ k) cof' t (n + 1) (updF f cell (f cell ++ [x])) ∧ Fr ok w w' := by
  apply S6_calls
  have b0 := Blk.new w 33 (it2 x)
  have f0 : Fr none1 w (w.alloc (.cells ⟨it2 x⟩ 33)) := Fr.alloc _ _
  refine cF rfl ⟨_, b0.cell 0, _, b0.cell 1, ?_⟩
  refine (wright_ok x.1 x.2 _).use ?_
  rintro v w1 ⟨rfl, f1⟩
  rw [decide_eq_true hx]
  refine ⟨_, rfl, cF rfl ?_⟩
  have f01 := f0.trans' f1
  have b1 := b0.fr f1 fun h => h
  have h1 := (h.mono (ok' := fun k => ok k ∧ k < w.heap.size) fun k hk h => ⟨h, hk⟩).fr f01 fun _ _ _ h => h
  have hT := h1
  obtain ⟨g0, m, g1, g2⟩ := h1
  obtain ⟨A, cp, r, o⟩ := g2.look uInt uMw (Zwl w1) hc
  refine ⟨_, rfl, _, g1.cell 0, A, _, cp, w1, r, _, b1.cell 0, ?_⟩
  refine (wplace_ok hT hc (by omega) hm).use ?_
  rintro v w2 ⟨rfl, f2⟩
  refine ⟨_, rfl, cF (decide_eq_false (by omega)) (cF rfl (cF (decide_eq_false (by omega)) ?_))⟩
  have fd : Fr none1 w2 w2.drew.drew := (Fr.drew w2).trans' (Fr.drew _)
  have f2d := f2.trans' fd
  have hT2 := hT.fr f2d fun _ _ _ h => h
  have b2 := b1.fr f2d fun h => h
  have o2 := o.fr f2d fun _ _ _ h => h
  have f02 := f01.trans' f2d
  unfold S6_k2
  generalize w2.drew.drew = w3 at hT2 b2 o2 f02 fd f2d ⊢
  have hs3 := f02.size
  obtain ⟨k0, m', k1, k2⟩ := hT2
  have em : m' = m := by
    have := (g1.fr f2d fun h => h)
    have e := Blk.eqV' k1 this
    cases e; rfl
  subst em
  have fa : Fr none1 w3 (w3.alloc (.cells ⟨it2 x⟩ 33)) := Fr.alloc _ _
  have es : (w3.alloc (.cells ⟨it2 x⟩ 33)).heap.size = w3.heap.size + 1 := by simp
  have oa := o2.fr fa fun _ _ _ h => h
  have lit := Own.lit w3 33 2 1 (it2 x) rfl (by simp [maxLen])
  have ka := k1.fr fa fun h => h
  have MRa := k2.fr fa fun _ _ _ h => h
  have ins := winsert_ok oa (by omega) lit.rd
  have fin : ∀ {v w4}, (∃ A' c', v = Value.slice A' (f cell ++ [x]).length c' ∧ Own w4 33 2 (fun k => ((ok k ∧ k < w.heap.size) ∧ k ≠ m' ∧ cof k = cell) ∨ (w3.alloc (.cells ⟨it2 x⟩ 33)).heap.size ≤ k) A' (f cell ++ [x]).length c' (rws it2 (f cell ++ [x])) ∧ Fr (ownAt A) (w3.alloc (.cells ⟨it2 x⟩ 33)) w4) →
      ∃ A' c', v = .slice A' (f cell ++ [x]).length c' ∧ w4.cell? ⟨t, 0, none⟩ = some (.map (some m')) ∧ ∃ w5, (Instr.mapUpdate 42 (.map (some m')) (.int .i64 cell) (.slice A' (f cell ++ [x]).length c')).run Tryd.prog w4 = .ok () w5 ∧ (Value.int .i64 0 = .int .i64 0 ∧ ∃ cof', Tab w5 (fun k => ok k ∨ w.heap.size ≤ k) cof' t (n + 1) (updF f cell (f cell ++ [x])) ∧ Fr ok w w5) := by
    rintro v w4 ⟨A', c', rfl, o4, f4⟩
    have hA : ∀ k, ownAt A k → (ok k ∧ k < w.heap.size) ∧ k ≠ m' ∧ cof k = cell := fun k ⟨a, ha, e⟩ => e ▸ (oa.has a ha).1
    have k4 := ka.fr f4 fun ⟨a, ha, e⟩ => oa.ne_blk ka (by decide) a ha e
    obtain ⟨w5, r5, M5, f5⟩ := MRa.put uInt uMw (by simp only [maxLen]; omega) hc f4 (fun k _ hk => hA k hk) o4
    refine ⟨A', c', rfl, k4.cell 0, w5, r5, rfl, _, ⟨.inl h.1, m', ?_, M5.mono fun k hk h => h.imp (fun h => h.1) fun h => by omega⟩, ?_⟩
    · have hnm : t ≠ m' := fun e => by
        obtain ⟨_, c9, g9, i9, _⟩ := MRa
        exact i9.ne_blk ka e.symm
      refine ka.fr f5 ?_
      rintro (⟨a, ha, e⟩ | e)
      · exact oa.ne_blk ka (by decide) a ha e
      · exact hnm e
    · exact (f02.mono fun _ _ h => h.elim).trans' ((fa.mono fun _ _ h => h.elim).trans' (f5.mono fun k _ h => h.elim (fun h => (hA k h).1.1) fun e => by have e : k = m' := e; subst e; exact k2.1.1))
  refine ⟨_, rfl, _, b2.cell 0, _, b2.cell 1, ⟨_, k1.cell 0, ?_⟩, ⟨_, ka.cell 0, ?_⟩, ?_⟩
  · refine ins.use ?_
    intro v w4 hv
    obtain ⟨A', c', e, _, w5, r5, hR⟩ := fin hv
    exact ⟨A', _, c', by rw [e], w5, r5, hR⟩
  · refine ins.use ?_
    intro v w4 hv
    obtain ⟨A', c', e, _, w5, r5, hR⟩ := fin hv
    exact ⟨A', _, c', by rw [e], w5, r5, hR⟩
  · refine ins.use ?_
    intro v w4 hv
    obtain ⟨A', c', e, q, w5, r5, hR⟩ := fin hv
    exact ⟨A', _, c', by rw [e], _, q, w5, r5, hR⟩
end
end Go.Proofs
