/- Floors: where the docks are. -/
import Derived.Test.YtmhjjhpgbafjpaaDoorFlCfree
set_option linter.unusedVariables false
set_option maxRecDepth 100000
namespace Go.Proofs
open Go Go.Eng
def dkStep (C : ByteArray) (st : Option ((Nat → Int) × Nat)) (i : Nat) : Option ((Nat → Int) × Nat) := match st with
  | none => none
  | some (a, n) => match C[i]? with
    | none => none
    | some c => if kdB c ≠ 3 then some (a, n) else if 0 < a (c.toNat - 48) then none else some (upd a (c.toNat - 48) ((i : Int) + 1), n + 1)
def dkAll (C : ByteArray) (i : Nat) : Option ((Nat → Int) × Nat) := (List.range i).foldl (dkStep C) (some (fun _ => 0, 0))
theorem dkAll_succ (C : ByteArray) (i : Nat) : dkAll C (i + 1) = dkStep C (dkAll C i) i := by
  unfold dkAll; rw [List.range_succ, List.foldl_append]; rfl
theorem dkAll_none (C : ByteArray) {i : Nat} (h : dkAll C i = none) : ∀ n, i ≤ n → dkAll C n = none := by
  intro n hn
  induction n with
  | zero => obtain rfl : i = 0 := by omega
            exact h
  | succ n ih =>
    by_cases e : i = n + 1
    · rw [← e]; exact h
    · rw [dkAll_succ, ih (by omega)]; rfl
def cnt8 (a : Nat → Int) : Nat := (List.range 8).countP fun k => decide (0 < a k)
theorem cnt8_le (a : Nat → Int) : cnt8 a ≤ 8 := by
  have := List.countP_le_length (p := fun k => decide (0 < a k)) (l := List.range 8)
  simpa [cnt8] using this
theorem cnt8_upd {a : Nat → Int} {r : Nat} (hr : r < 8) (h0 : ¬ 0 < a r) {x : Int} (hx : 0 < x) : cnt8 (upd a r x) = cnt8 a + 1 := by
  have e : List.range 8 = [0, 1, 2, 3, 4, 5, 6, 7] := by decide
  unfold cnt8
  rw [e]
  have h0' : decide (0 < a r) = false := decide_eq_false h0
  have hx' : decide (0 < x) = true := decide_eq_true hx
  rcases (by omega : r = 0 ∨ r = 1 ∨ r = 2 ∨ r = 3 ∨ r = 4 ∨ r = 5 ∨ r = 6 ∨ r = 7) with rfl | rfl | rfl | rfl | rfl | rfl | rfl | rfl <;>
    simp only [List.countP_cons, List.countP_nil, upd, h0'] <;> simp <;> (try rw [if_neg h0]) <;> (try rw [if_pos hx]) <;> omega
def DkI (C : ByteArray) (i : Nat) (a : Nat → Int) (n : Nat) : Prop := dkAll C i = some (a, n) ∧ n = cnt8 a ∧ ∀ k, 0 ≤ a k ∧ a k ≤ (i : Int)
def docksV (C : ByteArray) : List Int × Bool := match dkAll C C.size with
  | none => ([], false)
  | some (a, n) => if (List.range n).all (fun k => decide (a k ≠ 0)) then ((List.range n).map fun k => a k - 1, decide (0 < n)) else ([], false)
theorem kdB_dock {c : UInt8} (h : kdB c = 3) : 48 ≤ c.toNat ∧ c.toNat < 56 := by
  unfold kdB at h
  split at h
  · cases h
  · split at h
    · cases h
    · split at h
      · assumption
      · cases h
/-- Where docks are, is in the floor. -/
theorem docks_bound {C : ByteArray} {d : Int} (h : d ∈ (docksV C).1) : 0 ≤ d ∧ d < (C.size : Int) := by
  have inv : ∀ i a n, dkAll C i = some (a, n) → ∀ k, 0 ≤ a k ∧ a k ≤ (i : Int) := by
    intro i
    induction i with
    | zero =>
      intro a n h k
      cases h
      exact ⟨Int.le_refl _, Int.le_refl _⟩
    | succ i ih =>
      intro a n h k
      rw [dkAll_succ] at h
      cases e : dkAll C i with
      | none => rw [e] at h; cases h
      | some p =>
        obtain ⟨a0, n0⟩ := p
        rw [e] at h
        have h0 := ih a0 n0 e
        unfold dkStep at h
        dsimp only at h
        split at h
        · cases h
        · split at h
          · cases h
            have := h0 k
            omega
          · split at h
            · cases h
            · cases h
              unfold upd
              try dsimp only
              split
              · omega
              · have := h0 k; omega
  unfold docksV at h
  cases e : dkAll C C.size with
  | none => rw [e] at h; cases h
  | some p =>
    obtain ⟨a, n⟩ := p
    rw [e] at h
    dsimp only at h
    split at h
    · rename_i hall
      obtain ⟨k, hk, rfl⟩ := List.mem_map.1 h
      have h1 := inv _ _ _ e k
      have h2 : a k ≠ 0 := by simpa using List.all_eq_true.1 hall k hk
      omega
    · cases h
theorem docks_ok {f : Fl} (hC : f.C.size ≤ 256) (w : World) : Ret Tryd.prog 45 [fval f] w fun v w' => ∃ A c, v = .tuple ⟨[.slice A (docksV f.C).1.length c, .bool (docksV f.C).2]⟩ ∧ Own w' 3 1 (from1 w.heap.size) A (docksV f.C).1.length c (ints (docksV f.C).1) ∧ Fr none1 w w' := by
  apply S45_calls
  have b0 := (Blk.new w 25 (fcell f)).alloc (.cells ⟨arr 8 fun _ => 0⟩ 117)
  have a0 := Blk.new (w.alloc (.cells ⟨fcell f⟩ 25)) 117 (arr 8 fun _ => 0)
  have es : (w.alloc (.cells ⟨fcell f⟩ 25)).heap.size = w.heap.size + 1 := by simp
  have f0 : Fr none1 w ((w.alloc (.cells ⟨fcell f⟩ 25)).alloc (.cells ⟨arr 8 fun _ => 0⟩ 117)) := (Fr.alloc _ _ : Fr none1 w (w.alloc (.cells ⟨fcell f⟩ 25))).trans' (Fr.alloc _ _)
  refine ⟨_, b0.cell 2, fun s w' => ∃ (i : Nat) (a : Nat → Int) (n : Nat), s = ((n : Int), (i : Int), ()) ∧ i ≤ f.C.size ∧ DkI f.C i a n ∧ Blk w' w.heap.size 25 (fcell f) ∧ Blk w' (w.heap.size + 1) 117 (arr 8 a) ∧ Bel w.heap.size w w', fun s _ => f.C.size - s.2.1.toNat, ⟨0, fun _ => 0, 0, rfl, Nat.zero_le _, ⟨rfl, by decide, fun k => ⟨Int.le_refl _, Int.le_refl _⟩⟩, b0, by rw [← es]; exact a0, f0.bel0⟩, ?_⟩
  rintro J s w1 ⟨i, a, n, rfl, hi, hD, b1, a1, g1⟩
  dsimp only
  rw [show (w.alloc (.cells ⟨[.int .i64 f.W, .int .i64 f.H, .string f.C]⟩ 25)).heap.size = w.heap.size + 1 from es]
  have hn8 : n ≤ 8 := by rw [hD.2.1]; exact cnt8_le a
  refine cD (fun hlt => ?_) (fun hlt => ?_)
  · have hi' : i < f.C.size := by omega
    obtain ⟨c, hc⟩ := ba_get hi'
    have hcl := c.toNat_lt
    refine ⟨_, b1.cell 2, c, by omega, by rw [Int.toNat_natCast]; exact hc, ?_⟩
    refine (kind_ok c w1).use ?_
    rintro v w2 ⟨rfl, rfl⟩
    refine ⟨_, rfl, ?_⟩
    have st := dkAll_succ f.C i
    rw [hD.1] at st
    unfold dkStep at st
    dsimp only at st
    rw [hc] at st
    dsimp only at st
    by_cases h3 : kdB c = 3
    · rw [if_neg (by simp [h3])] at st
      obtain ⟨r1, r2⟩ := kdB_dock h3
      refine cF (by rw [h3]; rfl) ?_
      have ew : IntKind.u8.wrap ((c.toNat : Int) - 48) = ((c.toNat - 48 : Nat) : Int) := by
        simp [IntKind.wrap, IntKind.bits, IntKind.signed]; omega
      have ea : Addr.add ⟨w.heap.size + 1, 0, none⟩ (Int.toNat ((c.toNat - 48 : Nat) : Int) * 1) = ⟨w.heap.size + 1, c.toNat - 48, none⟩ := by
        rw [Int.toNat_natCast, Nat.mul_one, add_g]
      refine ⟨_, b1.cell 2, c, by omega, by rw [Int.toNat_natCast]; exact hc, ?_⟩
      rw [ew, ea]
      have hr8 : c.toNat - 48 < 8 := by omega
      refine ⟨by omega, by omega, a (c.toNat - 48), by rw [a1.cell (c.toNat - 48)]; exact arr_get hr8, cD (fun h0 => ?_) (fun h0 => ?_)⟩
      · rw [if_pos h0] at st
        have e : docksV f.C = ([], false) := by unfold docksV; rw [dkAll_none f.C st f.C.size (by omega)]
        rw [e]
        exact ⟨none, 0, rfl, Own.nil _ _ _ _, g1.top⟩
      · rw [if_neg h0] at st
        unfold S45_k3
        rw [ea]
        have hrl : c.toNat - 48 < (arr 8 a).length := by rw [arr_length]; exact hr8
        refine ⟨by omega, by omega, a1.has _ hrl, a1.free _, ?_⟩
        rw [IntWalk.i64_in ((i : Int) + 1) (by omega), IntWalk.i64_in ((n : Int) + 1) (by omega)]
        have a2 := a1.set (c.toNat - 48) (.int .i64 ((i : Int) + 1))
        rw [arr_set] at a2
        have fs : Fr (fun k => k = w.heap.size + 1) w2 (w2.setCell ⟨w.heap.size + 1, c.toNat - 48, none⟩ (.int .i64 ((i : Int) + 1))) := Fr.setCell (F := fun k => k = w.heap.size + 1) w2 rfl _
        have hk := hD.2.2
        refine ⟨⟨i + 1, upd a (c.toNat - 48) ((i : Int) + 1), n + 1, rfl, by omega, ⟨st, ?_, fun k => ?_⟩, b1.fr fs (by omega), a2, g1.trans' (fs.bel fun k e => by have e : k = _ := e; omega)⟩, by dsimp only; omega⟩
        · rw [cnt8_upd hr8 h0 (by omega), ← hD.2.1]
        · unfold upd
          try dsimp only
          have := hk k
          split <;> omega
    · rw [if_pos h3] at st
      refine cT (by simp; exact fun e => h3 (by omega)) ?_
      rw [IntWalk.i64_in _ (by omega)]
      exact ⟨⟨i + 1, a, n, rfl, by omega, ⟨st, hD.2.1, fun k => by have := hD.2.2 k; omega⟩, b1, a1, g1⟩, by dsimp only; omega⟩
  · have hi' : i = f.C.size := by omega
    subst hi'
    have hV : docksV f.C = if (List.range n).all (fun k => decide (a k ≠ 0)) then ((List.range n).map fun k => a k - 1, decide (0 < n)) else ([], false) := by
      unfold docksV; rw [hD.1]
    unfold S45_k4
    rw [slAddr_zero, Int.toNat_natCast, Nat.sub_zero, Nat.sub_zero]
    have hs1 := g1.size
    refine ⟨by omega, by omega, fun s w' => ∃ (j : Nat) (A : Option Addr) (c : Nat), s = ((A, ((List.range j).map fun k => a k - 1).length, c), (j : Int), ()) ∧ j ≤ n ∧ (∀ k, k < j → a k ≠ 0) ∧ Own w' 3 1 (fun k => w.heap.size + 1 < k) A ((List.range j).map fun k => a k - 1).length c (ints ((List.range j).map fun k => a k - 1)) ∧ Blk w' (w.heap.size + 1) 117 (arr 8 a) ∧ Bel w.heap.size w w', fun s _ => n - s.2.1.toNat, ⟨0, none, 0, rfl, Nat.zero_le _, fun k h => by omega, Own.nil _ _ _ _, a1, g1⟩, ?_⟩
    rintro J s w2 ⟨j, A, c, rfl, hj, hne, o, a2, g2⟩
    dsimp only
    refine cD (fun hlt => ?_) (fun hlt => ?_)
    · have hj' : j < n := by omega
      have cj : w2.cell? (Addr.add ⟨w.heap.size + 1, 0, none⟩ (Int.toNat (j : Int) * 1)) = some (.int .i64 (a j)) := by
        rw [Int.toNat_natCast, Nat.mul_one, add_g, a2.cell j]; exact arr_get (by omega)
      have hk := hD.2.2 j
      refine ⟨_, rfl, by omega, by omega, _, cj, cD (fun h0 => ?_) (fun h0 => ?_)⟩
      · have : docksV f.C = ([], false) := by
          rw [hV, if_neg]
          intro hall
          have := List.all_eq_true.1 hall j (List.mem_range.2 hj')
          simp [h0] at this
        rw [this]
        exact ⟨none, 0, rfl, Own.nil _ _ _ _, g2.top⟩
      · unfold S45_k7
        rw [IntWalk.i64_in (a j - 1) (by omega)]
        obtain ⟨A', c', w3, r3, o3, f3⟩ := app_int o (a j - 1) (by simp; omega)
        refine ⟨A', _, c', w3, r3, ?_⟩
        rw [IntWalk.i64_in _ (by omega)]
        have es' : ((List.range j).map fun k => a k - 1) ++ [a j - 1] = (List.range (j + 1)).map fun k => a k - 1 := by rw [List.range_succ, List.map_append]; rfl
        rw [es'] at o3 ⊢
        have hs2 := g2.size
        have hal := a2.lt
        refine ⟨⟨j + 1, A', c', rfl, by omega, fun k hk => ?_, o3.mono fun k _ h => h.elim id fun h => ?_, a2.fr f3 fun ⟨q, hq, e⟩ => o.ne_blk a2 (by decide) q hq e, g2.trans' (f3.bel fun k ⟨q, hq, e⟩ => ?_)⟩, by dsimp only; omega⟩
        · by_cases e : k = j
          · rw [e]; exact h0
          · exact hne k (by omega)
        · show w.heap.size + 1 < k
          omega
        · have := (o.has q hq).1
          omega
    · have ej : j = n := by omega
      subst ej
      have : docksV f.C = ((List.range j).map fun k => a k - 1, decide (0 < j)) := by
        rw [hV, if_pos]
        rw [List.all_eq_true]
        intro k hk
        simpa using hne k (List.mem_range.1 hk)
      rw [this]
      refine ⟨A, c, ?_, o.mono fun k _ h => ?_, g2.top⟩
      · show Value.tuple ⟨[_, .bool (decide ((0 : Int) < (j : Int)))]⟩ = _
        congr 4
        simp
      · show w.heap.size ≤ k
        omega
end Go.Proofs
