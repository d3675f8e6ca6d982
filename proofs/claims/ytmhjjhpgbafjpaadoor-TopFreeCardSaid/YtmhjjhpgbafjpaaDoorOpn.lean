import Derived.Test.YtmhjjhpgbafjpaaDoorRow
import Derived.Test.YtmhjjhpgbafjpaaDoorHp
import Derived.ChangeArms
/- Opening what came in: from the readings of the arguments to their cells. -/
set_option linter.unusedVariables false
namespace Go.Eng
open Go
theorem exists_list {α : Type} {R : Nat → α → Prop} : ∀ (l : Nat), (∀ i, i < l → ∃ a, R i a) → ∃ xs : List α, xs.length = l ∧ ∀ (i : Nat) (z : α), xs[i]? = some z → R i z
  | 0, _ => ⟨[], rfl, fun i z h => by simp at h⟩
  | l + 1, h => by
    obtain ⟨xs, hl, hx⟩ := exists_list l fun i hi => h i (by omega)
    obtain ⟨a, ha⟩ := h l (by omega)
    refine ⟨xs ++ [a], by simp [hl], fun i z hz => ?_⟩
    rw [List.getElem?_append] at hz
    split at hz
    · exact hx i z hz
    · have h0 : i - xs.length = 0 := by have := (List.getElem?_eq_some_iff.1 hz).1; simp at this; omega
      have : i = l := by omega
      rw [h0] at hz; simp at hz; subst hz; rw [this]; exact ha
theorem cell_lt {w : World} {a : Addr} {v : Value} (h : w.cell? a = some v) : a.block < w.heap.size := by
  unfold World.cell? at h
  split at h
  · rename_i hx; exact (Array.getElem?_eq_some_iff.1 hx).1
  · cases h
theorem cells_at {w : World} {base n : Nat} {a : Addr} {cs : List Value} (h : w.cells? base a n = some cs) : cs.length = n ∧ ∀ (j : Nat) (v : Value), cs[j]? = some v → w.cell? (a.add j) = some v := by
  obtain ⟨h1, h2, h3⟩ := World.cells?_some h
  refine ⟨h2, fun j v hv => ?_⟩
  have hj := (List.getElem?_eq_some_iff.1 hv).1
  rw [h3 j (by omega), hv]
section
variable {H : Type} {enc : TypeId × Value → H} {P : Program} {w : World} {base : Nat} {sp : Nat → Bool} {held : Bool}
/-- A row of elements from an address on. -/
def RowAt {α : Type} (B n : Nat) (Q : Addr → α → Prop) (A : Option Addr) (xs : List α) : Prop :=
  ∀ (i : Nat) (z : α), xs[i]? = some z → ∃ a, A = some a ∧ a.block < B ∧ Q (a.add (i * n)) z
theorem open_slice {α : Type} {t e : TypeId} {n fuel : Nat} {cs : List Value} {x : DataW H × List MemPlace} (ht : P.underlying t = some (.slice e)) (hc : P.cellsOf e = n) (hn : 0 < n)
    (h : DataW.trod enc P w base sp held fuel t cs = some x) (Q : Addr → α → Prop)
    (hel : ∀ (a : Addr) (m : Nat) (ccs : List Value) (y : DataW H × List MemPlace), ccs.length = n → (∀ (j : Nat) (v : Value), ccs[j]? = some v → w.cell? (a.add j) = some v) → DataW.trod enc P w base sp held m e ccs = some y → ∃ z, Q a z) :
    ∃ (A : Option Addr) (l c : Nat) (xs : List α), cs = [.slice A l c] ∧ xs.length = l ∧ l ≤ c ∧ c ≤ maxLen ∧ RowAt w.heap.size n Q A xs := by
  rcases DataW.trod_slice ht h with ⟨h0, _⟩ | ⟨a, len, cap, elems, rest, m, _, hcs, _, _, hl, hm, hlen, hel', _, _⟩
  · exact ⟨none, 0, 0, [], h0, rfl, Nat.le_refl _, Nat.zero_le _, fun i z hz => by simp at hz⟩
  · obtain ⟨xs, hxl, hx⟩ := exists_list (R := fun i z => Q (a.add (i * n)) z ∧ a.block < w.heap.size) len (fun i hi => by
      have hb := hel' i hi
      rw [List.getElem?_eq_getElem (by omega), hc, Option.bind_eq_some_iff] at hb
      obtain ⟨ccs, h1, h2⟩ := hb
      obtain ⟨h3, h4⟩ := cells_at h1
      obtain ⟨z, hz⟩ := hel _ m ccs _ h3 h4 h2
      refine ⟨z, hz, ?_⟩
      have h5 := h4 0 ccs[0] (List.getElem?_eq_getElem (by omega))
      have := cell_lt h5
      rwa [add_block, add_block] at this)
    exact ⟨some a, len, cap, xs, hcs, hxl, hl, hm, fun i z hz => ⟨a, rfl, (hx i z hz).2, (hx i z hz).1⟩⟩
theorem open_int' {t : TypeId} {k : IntKind} {fuel : Nat} {v : Value} {x : DataW H × List MemPlace} (ht : P.underlying t = some (.int k)) (h : DataW.trod enc P w base sp held fuel t [v] = some x) :
    ∃ n, v = .int k n ∧ k.min ≤ n ∧ n ≤ k.max := by
  obtain ⟨n, h1, _, h2⟩ := DataW.trod_int ht h
  simp at h1
  simp [Lit.wf] at h2
  exact ⟨n, h1, h2.1, h2.2⟩
theorem open_bool' {t : TypeId} {fuel : Nat} {v : Value} {x : DataW H × List MemPlace} (ht : P.underlying t = some .bool) (h : DataW.trod enc P w base sp held fuel t [v] = some x) :
    ∃ b, v = .bool b := by
  cases fuel with
  | zero => simp [DataW.trod] at h
  | succ n =>
    unfold DataW.trod at h
    rw [ht] at h
    split at h <;> simp_all
theorem open_string' {t : TypeId} {fuel : Nat} {v : Value} {x : DataW H × List MemPlace} (ht : P.underlying t = some .string) (h : DataW.trod enc P w base sp held fuel t [v] = some x) :
    ∃ s, v = .string s ∧ s.size ≤ maxLen := by
  cases fuel with
  | zero => simp [DataW.trod] at h
  | succ n =>
    unfold DataW.trod at h
    rw [ht] at h
    split at h <;> simp_all
theorem open_bytes {t e : TypeId} {fuel : Nat} {v : Value} {x : DataW H × List MemPlace} (ht : P.underlying t = some (.slice e)) (he : P.underlying e = some (.int .u8)) (hc : P.cellsOf e = 1)
    (h : DataW.trod enc P w base sp held fuel t [v] = some x) :
    ∃ (A : Option Addr) (c : Nat) (xs : List UInt8), v = .slice A xs.length c ∧ xs.length ≤ c ∧ c ≤ maxLen ∧ Rd w (fun k => k < w.heap.size) A (bvs xs) := by
  obtain ⟨A, l, c, xs, h1, h2, h3, h4, h5⟩ := open_slice (α := UInt8) ht hc (by decide) h (fun a b => w.cell? a = some (bv b)) (fun a m ccs y hl hcell hy => by
    match ccs, hl with
    | [v], _ =>
      obtain ⟨n, rfl, n1, n2⟩ := open_int' he hy
      have h0 := hcell 0 _ rfl
      rw [add_zero'] at h0
      simp [IntKind.min, IntKind.max, IntKind.bits, IntKind.signed] at n1 n2
      refine ⟨UInt8.ofNat n.toNat, ?_⟩
      rw [h0]
      simp [bv]; omega)
  simp at h1
  subst h2
  refine ⟨A, c, xs, h1, h3, h4, ?_⟩
  cases A with
  | none =>
    left
    cases xs with
    | nil => rfl
    | cons z zs => obtain ⟨a, ha, _⟩ := h5 0 z rfl; cases ha
  | some a =>
    cases hxs : xs with
    | nil => exact .inl rfl
    | cons z zs =>
      right
      rw [← hxs]
      obtain ⟨_, ha, hb, _⟩ := h5 0 z (by rw [hxs]; rfl)
      cases ha
      refine ⟨a, rfl, hb, fun j v hv => ?_⟩
      simp [bvs] at hv
      obtain ⟨b, hb1, rfl⟩ := hv
      obtain ⟨_, ha, _, hq⟩ := h5 j b hb1
      cases ha
      rwa [Nat.mul_one] at hq
theorem open_struct {t : TypeId} {fs : Array Field} {fuel : Nat} {cs : List Value} {x : DataW H × List MemPlace} (ht : P.underlying t = some (.struct fs)) (h : DataW.trod enc P w base sp held fuel t cs = some x) :
    cs.length = P.cellsOf t ∧ ∃ m, ∀ (i : Nat) (f : Field), fs[i]? = some f → ∃ y, DataW.trod enc P w base sp held m f.type ((cs.drop f.offset).take (P.cellsOf f.type)) = some y := by
  obtain ⟨xs, n, _, _, hl, hx, hf⟩ := DataW.trod_struct ht h
  refine ⟨hl, n, fun i f hi => ?_⟩
  have := (Array.getElem?_eq_some_iff.1 hi).1
  exact ⟨xs[i], by rw [hf i f hi, List.getElem?_eq_getElem]⟩
end
theorem Fr.cell {F : Nat → Prop} {w w' : World} (h : Fr F w w') {p : Addr} (hp : p.block < w.heap.size) (hF : ¬ F p.block) : w'.cell? p = w.cell? p := by
  unfold World.cell?; rw [h.block _ hp hF]
theorem Blk.has {w : World} {b : Nat} {t : TypeId} {vs : List Value} (h : Blk w b t vs) (j : Nat) (hj : j < vs.length) : ∃ u, w.cell? ⟨b, j, none⟩ = some u :=
  ⟨vs[j], by rw [h.cell, List.getElem?_eq_getElem hj]⟩
theorem Fr.set1 {w w' : World} (h : Fr none1 w w') {p : Addr} (hp : w.heap.size ≤ p.block) (u : Value) : Fr none1 w (w'.setCell p u) :=
  h.trans (Fr.setCell (F := fun k => k = p.block) w' rfl u) fun k hk e => by subst e; omega
theorem cp2 (w : World) (t : TypeId) (x0 x1 y0 y1 : Value) :
    (∃ u, (w.alloc (.cells ⟨[x0, x1]⟩ t)).cell? ⟨w.heap.size, 0, none⟩ = some u) ∧ (w.alloc (.cells ⟨[x0, x1]⟩ t)).frozen? ⟨w.heap.size, 0, none⟩ = false ∧
    (∃ u, ((w.alloc (.cells ⟨[x0, x1]⟩ t)).setCell ⟨w.heap.size, 0, none⟩ y0).cell? ⟨w.heap.size, 1, none⟩ = some u) ∧ ((w.alloc (.cells ⟨[x0, x1]⟩ t)).setCell ⟨w.heap.size, 0, none⟩ y0).frozen? ⟨w.heap.size, 1, none⟩ = false ∧
    Blk (((w.alloc (.cells ⟨[x0, x1]⟩ t)).setCell ⟨w.heap.size, 0, none⟩ y0).setCell ⟨w.heap.size, 1, none⟩ y1) w.heap.size t [y0, y1] ∧
    Fr none1 w (((w.alloc (.cells ⟨[x0, x1]⟩ t)).setCell ⟨w.heap.size, 0, none⟩ y0).setCell ⟨w.heap.size, 1, none⟩ y1) := by
  have b0 := Blk.new w t [x0, x1]
  have b1 := b0.set 0 y0
  have b2 := b1.set 1 y1
  exact ⟨b0.has 0 (by simp), b0.free 0, b1.has 1 (by simp), b1.free 1, b2, (((Fr.alloc w _).set1 (Nat.le_refl _) _).set1 (Nat.le_refl _) _)⟩
theorem cp3 (w : World) (t : TypeId) (x0 x1 x2 y0 y1 y2 : Value) :
    (∃ u, (w.alloc (.cells ⟨[x0, x1, x2]⟩ t)).cell? ⟨w.heap.size, 0, none⟩ = some u) ∧ (w.alloc (.cells ⟨[x0, x1, x2]⟩ t)).frozen? ⟨w.heap.size, 0, none⟩ = false ∧
    (∃ u, ((w.alloc (.cells ⟨[x0, x1, x2]⟩ t)).setCell ⟨w.heap.size, 0, none⟩ y0).cell? ⟨w.heap.size, 1, none⟩ = some u) ∧ ((w.alloc (.cells ⟨[x0, x1, x2]⟩ t)).setCell ⟨w.heap.size, 0, none⟩ y0).frozen? ⟨w.heap.size, 1, none⟩ = false ∧
    (∃ u, (((w.alloc (.cells ⟨[x0, x1, x2]⟩ t)).setCell ⟨w.heap.size, 0, none⟩ y0).setCell ⟨w.heap.size, 1, none⟩ y1).cell? ⟨w.heap.size, 2, none⟩ = some u) ∧
    (((w.alloc (.cells ⟨[x0, x1, x2]⟩ t)).setCell ⟨w.heap.size, 0, none⟩ y0).setCell ⟨w.heap.size, 1, none⟩ y1).frozen? ⟨w.heap.size, 2, none⟩ = false ∧
    Blk ((((w.alloc (.cells ⟨[x0, x1, x2]⟩ t)).setCell ⟨w.heap.size, 0, none⟩ y0).setCell ⟨w.heap.size, 1, none⟩ y1).setCell ⟨w.heap.size, 2, none⟩ y2) w.heap.size t [y0, y1, y2] ∧
    Fr none1 w ((((w.alloc (.cells ⟨[x0, x1, x2]⟩ t)).setCell ⟨w.heap.size, 0, none⟩ y0).setCell ⟨w.heap.size, 1, none⟩ y1).setCell ⟨w.heap.size, 2, none⟩ y2) := by
  have b0 := Blk.new w t [x0, x1, x2]
  have b1 := b0.set 0 y0
  have b2 := b1.set 1 y1
  have b3 := b2.set 2 y2
  exact ⟨b0.has 0 (by simp), b0.free 0, b1.has 1 (by simp), b1.free 1, b2.has 2 (by simp), b2.free 2, b3, ((((Fr.alloc w _).set1 (Nat.le_refl _) _).set1 (Nat.le_refl _) _).set1 (Nat.le_refl _) _)⟩
theorem cp4 (w : World) (t : TypeId) (x0 x1 x2 x3 y0 y1 y2 y3 : Value) :
    (∃ u, (w.alloc (.cells ⟨[x0, x1, x2, x3]⟩ t)).cell? ⟨w.heap.size, 0, none⟩ = some u) ∧ (w.alloc (.cells ⟨[x0, x1, x2, x3]⟩ t)).frozen? ⟨w.heap.size, 0, none⟩ = false ∧
    (∃ u, ((w.alloc (.cells ⟨[x0, x1, x2, x3]⟩ t)).setCell ⟨w.heap.size, 0, none⟩ y0).cell? ⟨w.heap.size, 1, none⟩ = some u) ∧ ((w.alloc (.cells ⟨[x0, x1, x2, x3]⟩ t)).setCell ⟨w.heap.size, 0, none⟩ y0).frozen? ⟨w.heap.size, 1, none⟩ = false ∧
    (∃ u, (((w.alloc (.cells ⟨[x0, x1, x2, x3]⟩ t)).setCell ⟨w.heap.size, 0, none⟩ y0).setCell ⟨w.heap.size, 1, none⟩ y1).cell? ⟨w.heap.size, 2, none⟩ = some u) ∧
    (((w.alloc (.cells ⟨[x0, x1, x2, x3]⟩ t)).setCell ⟨w.heap.size, 0, none⟩ y0).setCell ⟨w.heap.size, 1, none⟩ y1).frozen? ⟨w.heap.size, 2, none⟩ = false ∧
    (∃ u, ((((w.alloc (.cells ⟨[x0, x1, x2, x3]⟩ t)).setCell ⟨w.heap.size, 0, none⟩ y0).setCell ⟨w.heap.size, 1, none⟩ y1).setCell ⟨w.heap.size, 2, none⟩ y2).cell? ⟨w.heap.size, 3, none⟩ = some u) ∧
    ((((w.alloc (.cells ⟨[x0, x1, x2, x3]⟩ t)).setCell ⟨w.heap.size, 0, none⟩ y0).setCell ⟨w.heap.size, 1, none⟩ y1).setCell ⟨w.heap.size, 2, none⟩ y2).frozen? ⟨w.heap.size, 3, none⟩ = false ∧
    Blk (((((w.alloc (.cells ⟨[x0, x1, x2, x3]⟩ t)).setCell ⟨w.heap.size, 0, none⟩ y0).setCell ⟨w.heap.size, 1, none⟩ y1).setCell ⟨w.heap.size, 2, none⟩ y2).setCell ⟨w.heap.size, 3, none⟩ y3) w.heap.size t [y0, y1, y2, y3] ∧
    Fr none1 w (((((w.alloc (.cells ⟨[x0, x1, x2, x3]⟩ t)).setCell ⟨w.heap.size, 0, none⟩ y0).setCell ⟨w.heap.size, 1, none⟩ y1).setCell ⟨w.heap.size, 2, none⟩ y2).setCell ⟨w.heap.size, 3, none⟩ y3) := by
  have b0 := Blk.new w t [x0, x1, x2, x3]
  have b1 := b0.set 0 y0
  have b2 := b1.set 1 y1
  have b3 := b2.set 2 y2
  have b4 := b3.set 3 y3
  exact ⟨b0.has 0 (by simp), b0.free 0, b1.has 1 (by simp), b1.free 1, b2.has 2 (by simp), b2.free 2, b3.has 3 (by simp), b3.free 3, b4, (((((Fr.alloc w _).set1 (Nat.le_refl _) _).set1 (Nat.le_refl _) _).set1 (Nat.le_refl _) _).set1 (Nat.le_refl _) _)⟩
end Go.Eng
