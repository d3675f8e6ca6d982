/- Floors: a text is read. -/
import Derived.Test.YtmhjjhpgbafjpaaDoorSpMfree
import Derived.Test.YtmhjjhpgbafjpaaDoorShFfree
import Derived.Lib.SplitLaws
set_option linter.unusedVariables false
set_option maxRecDepth 100000
namespace Go.Eng
open Go
theorem Fr.ofBelow {w w' : World} (h : RowKit.Below w.heap.size w w') : Fr none1 w w' := ⟨h.os, h.tape, h.output, h.size, fun k hk _ => h.block k hk⟩
theorem wr3b {w : World} {b : Nat} {t : TypeId} {x0 x1 x2 : Value} (h : Blk w b t [x0, x1, x2]) (y0 y1 y2 : Value) : ∀ W, W = ((w.setCell ⟨b, 0, none⟩ y0).setCell ((⟨b, 0, none⟩ : Addr).add 1) y1).setCell ((⟨b, 0, none⟩ : Addr).add 2) y2 →
    ((∃ u, w.cell? ⟨b, 0, none⟩ = some u) ∧ w.frozen? ⟨b, 0, none⟩ = false ∧
      (∃ u, (w.setCell ⟨b, 0, none⟩ y0).cell? ((⟨b, 0, none⟩ : Addr).add 1) = some u) ∧ (w.setCell ⟨b, 0, none⟩ y0).frozen? ((⟨b, 0, none⟩ : Addr).add 1) = false ∧
      (∃ u, ((w.setCell ⟨b, 0, none⟩ y0).setCell ((⟨b, 0, none⟩ : Addr).add 1) y1).cell? ((⟨b, 0, none⟩ : Addr).add 2) = some u) ∧ ((w.setCell ⟨b, 0, none⟩ y0).setCell ((⟨b, 0, none⟩ : Addr).add 1) y1).frozen? ((⟨b, 0, none⟩ : Addr).add 2) = false) ∧
    (W.cell? ⟨b, 0, none⟩ = some y0 ∧ W.cell? ((⟨b, 0, none⟩ : Addr).add 1) = some y1 ∧ W.cell? ((⟨b, 0, none⟩ : Addr).add 2) = some y2) ∧
    Blk W b t [y0, y1, y2] ∧ Fr (fun k => k = b) w W := by
  rintro W rfl
  rw [add_g, add_g]
  have b1 := h.set 0 y0
  have b2 := b1.set 1 y1
  have b3 := b2.set 2 y2
  exact ⟨⟨h.has 0 (by simp), h.free 0, b1.has 1 (by simp), b1.free 1, b2.has 2 (by simp), b2.free 2⟩, ⟨b3.cell 0, b3.cell 1, b3.cell 2⟩, b3, (Fr.setCell (F := fun k => k = b) w (p := ⟨b, 0, none⟩) rfl y0).trans' ((Fr.setCell (F := fun k => k = b) _ (p := ⟨b, 1, none⟩) rfl y1).trans' (Fr.setCell (F := fun k => k = b) _ (p := ⟨b, 2, none⟩) rfl y2))⟩
end Go.Eng
namespace Go.Proofs
open Go Go.Eng
abbrev eB : ByteArray := ⟨#[]⟩
def mayB (row first : ByteArray) (y : Int) : Bool := decide (y < 16) && (decide (row ≠ eB) && (decide (row.size ≤ 16) && (decide (row.size = first.size) && (List.range row.size).all fun i => decide (kdF row i ≠ 0))))
theorem may_ok (row first : ByteArray) (y : Int) (w : World) : Ret Tryd.prog 23 [.string row, .string first, .int .i64 y] w fun v w' => v = .bool (mayB row first y) ∧ Fr none1 w w' := by
  apply S23_calls
  have no : mayB row first y = false → S23_k0 row true w (fun v w' => v = .bool (mayB row first y) ∧ Fr none1 w w') := fun h => cT rfl ⟨by rw [h], Fr.refl _ _⟩
  refine cD (fun h => no (by unfold mayB; rw [decide_eq_false (by omega)]; rfl)) fun h1 => cD (fun h => no (by unfold mayB; rw [decide_eq_false (fun h' => h' h : ¬ row ≠ eB)]; simp)) fun h2 => cD (fun h => no (by unfold mayB; rw [decide_eq_false (show ¬ row.size ≤ 16 by omega)]; simp)) fun h3 => ?_
  refine cN (fun h => ?_) (fun h4 => ?_)
  · refine ⟨?_, Fr.refl _ _⟩
    unfold mayB
    rw [decide_eq_false (show ¬ row.size = first.size by omega)]
    simp
  · have e0 : mayB row first y = (List.range row.size).all fun i => decide (kdF row i ≠ 0) := by
      unfold mayB
      rw [decide_eq_true (show y < 16 by omega), decide_eq_true (show row ≠ eB from h2), decide_eq_true (show row.size ≤ 16 by omega), decide_eq_true (show row.size = first.size by omega)]
      rfl
    rw [e0]
    refine ⟨fun s w' => ∃ i : Nat, s = ((i : Int), ()) ∧ i ≤ row.size ∧ (List.range i).all (fun i => decide (kdF row i ≠ 0)) = true ∧ w' = w, fun s _ => row.size - s.1.toNat, ⟨0, rfl, Nat.zero_le _, rfl, rfl⟩, ?_⟩
    rintro J s w1 ⟨i, rfl, hi, hall, rfl⟩
    dsimp only
    refine cD (fun hlt => ?_) (fun hlt => ?_)
    · obtain ⟨ch, hc⟩ := ba_get (C := row) (i := i) (by omega)
      have hk := kdF_get hc
      refine ⟨ch, by omega, by rw [Int.toNat_natCast]; exact hc, ?_⟩
      refine (kind_ok ch _).use ?_
      rintro v w2 ⟨rfl, rfl⟩
      refine ⟨_, rfl, cD (fun h => ?_) (fun h => ?_)⟩
      · refine ⟨?_, Fr.refl _ _⟩
        congr 1
        refine (List.all_eq_false.2 ⟨i, List.mem_range.2 (by omega), ?_⟩).symm
        rw [hk]
        simp
        omega
      · rw [IntWalk.i64_in _ (by omega)]
        refine ⟨⟨i + 1, rfl, by omega, ?_, rfl⟩, by dsimp only; omega⟩
        rw [List.range_succ, List.all_append, hall]
        simp
        rw [hk]
        omega
    · have e : i = row.size := by omega
      subst e
      exact ⟨by rw [hall], Fr.refl _ _⟩
/-! ### A text -/
abbrev nlB : ByteArray := ⟨#[10]⟩
def allRows (s : ByteArray) : List ByteArray := Lib.splitB nlB 0 (Lib.countB s nlB) s
theorem allRows_len (s : ByteArray) : (allRows s).length = Lib.countB s nlB + 1 := Lib.splitB_all nlB (by decide) 0 _ s rfl
def rowsF (s : ByteArray) : List ByteArray := if (allRows s)[Lib.countB s nlB]? = some eB then (allRows s).take (Lib.countB s nlB) else allRows s
def joinB (rows : List ByteArray) : ByteArray := ⟨(Lib.join (rows.map (·.data.toList)) []).toArray⟩
def flOf (rows : List ByteArray) : Fl := ⟨((rows.getD 0 eB).size : Int), (rows.length : Int), joinB rows⟩
def noFl : Fl := ⟨0, 0, eB⟩
def mays (rows : List ByteArray) : Bool := (List.range rows.length).all fun i => mayB (rows.getD i eB) (rows.getD 0 eB) (i : Int)
def parseV (s : ByteArray) : Fl × Int := if mays (rowsF s) = true ∧ rowsF s ≠ [] ∧ rightF (flOf (rowsF s)) = true then (flOf (rowsF s), 0) else (noFl, 30)
theorem ba_size (l : List UInt8) : (ByteArray.mk l.toArray).size = l.length := by simp [ByteArray.size]
theorem joinB_size (rows : List ByteArray) : (joinB rows).size = Lib.lens (rows.map (·.data.toList)) := by
  unfold joinB
  rw [ba_size]
  cases rows with
  | nil => rfl
  | cons x r =>
    rw [List.map_cons, Lib.join_cons, List.length_append, Lib.joinTail_length]
    simp [Lib.lens]
theorem mays_get {rows : List ByteArray} (h : mays rows = true) {i : Nat} (hi : i < rows.length) : (i : Int) < 16 ∧ (rows.getD i eB).size ≤ 16 := by
  have := List.all_eq_true.1 h i (List.mem_range.2 hi)
  unfold mayB at this
  simp only [Bool.and_eq_true, decide_eq_true_eq] at this
  exact ⟨this.1, this.2.2.1⟩
theorem lens_le : ∀ {rows : List ByteArray}, (∀ i, i < rows.length → (rows.getD i eB).size ≤ 16) → Lib.lens (rows.map (·.data.toList)) ≤ 16 * rows.length
  | [], _ => Nat.le_refl _
  | x :: r, h => by
    have h0 := h 0 (by simp)
    have := lens_le (rows := r) fun i hi => by have := h (i + 1) (by simp; omega); simpa using this
    simp only [List.getD_cons_zero] at h0
    have e : x.data.toList.length = x.size := Array.length_toList
    simp only [Lib.lens, List.map_cons, List.sum_cons, List.length_cons] at this ⊢
    omega
theorem flOf_ok {rows : List ByteArray} (h : mays rows = true) (hne : rows ≠ []) : FOk (flOf rows) ∧ rows.length ≤ 16 := by
  have hl : rows.length ≤ 16 := by
    rcases Nat.lt_or_ge 16 rows.length with h' | h'
    · have := (mays_get h (i := 16) h').1; omega
    · exact h'
  have h0 : 0 < rows.length := List.length_pos_iff.2 hne
  have h1 := (mays_get h h0).2
  have h2 : (joinB rows).size ≤ 16 * rows.length := by rw [joinB_size]; exact lens_le fun i hi => (mays_get h hi).2
  refine ⟨⟨by show (joinB rows).size ≤ 256; omega, ?_, ?_⟩, hl⟩
  · show (-1000 : Int) ≤ ((rows.getD 0 eB).size : Int) ∧ ((rows.getD 0 eB).size : Int) ≤ 1000
    omega
  · show (-1000 : Int) ≤ (rows.length : Int) ∧ (rows.length : Int) ≤ 1000
    omega
theorem parse_fine {s : ByteArray} {f : Fl} (h : parseV s = (f, 0)) : FOk f ∧ rightF f = true ∧ 0 < f.C.size := by
  unfold parseV at h
  split at h
  · rename_i hc
    obtain ⟨h1, h2, h3⟩ := hc
    obtain ⟨e, _⟩ := Prod.mk.inj h
    subst e
    obtain ⟨hs, hz, _⟩ := right_side h3
    refine ⟨(flOf_ok h1 h2).1, h3, ?_⟩
    have hs1 := hs.1
    have hs3 := hs.2.2.1
    have : (1 : Int) * 1 ≤ (flOf (rowsF s)).W * (flOf (rowsF s)).H := Int.mul_le_mul hs1 hs3 (by decide) (by omega)
    omega
  · cases (Prod.mk.inj h).2
end Go.Proofs
