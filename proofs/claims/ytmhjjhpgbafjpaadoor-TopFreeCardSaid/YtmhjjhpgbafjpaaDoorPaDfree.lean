/- Floors: a text is read; the floor that is tried. -/
import Derived.Test.YtmhjjhpgbafjpaaDoorPaCfree
set_option linter.unusedVariables false
set_option maxRecDepth 100000
namespace Go.Proofs
open Go Go.Eng
def strs (rows : List ByteArray) : List Value := rows.map Value.string
theorem strs_get {rows : List ByteArray} {i : Nat} {x : ByteArray} (h : rows[i]? = some x) : (strs rows)[i]? = some (.string x) := by simp [strs, h]
def PR (W : World) (s : ByteArray) (v : Value) (w' : World) : Prop := (∃ k : Int, v = .tuple ⟨[fval (parseV s).1, .int .i64 k, .int .i64 (parseV s).2]⟩) ∧ Fr none1 W w'
section
variable {W w : World} {s : ByteArray} {b bk c : Nat} {rows : List ByteArray}
theorem str_at {ok : Nat → Prop} {A : Option Addr} (h : Rd w ok A (strs rows)) {i : Nat} {x : ByteArray} (hx : rows[i]? = some x) : ∃ a, A = some a ∧ w.cell? (a.add (i * 1)) = some (.string x) := by
  obtain ⟨a, ha, _, hc⟩ := h.at (strs_get hx)
  exact ⟨a, ha, by rw [Nat.mul_one]; exact hc⟩
theorem getD_of {i : Nat} {x : ByteArray} (hx : rows[i]? = some x) : rows.getD i eB = x := by rw [List.getD_eq_getElem?_getD, hx]; rfl
/-- The floor is looked at. -/
theorem parse_k5 (e : rowsF s = rows) (hm : mays rows = true) (hne : rows ≠ []) {fb : Nat} (hb : Blk w b 25 (fcell noFl)) (hbW : W.heap.size ≤ b) (hfb : Blk w fb 25 (fcell (flOf rows))) (f : Fr none1 W w) (A : Option Addr) : S9_k5 ⟨b, 0, none⟩ A rows.length c ⟨fb, 0, none⟩ w (PR W s) := by
  have hok := (flOf_ok hm hne).1
  refine ⟨_, hfb.cell 0, _, by rw [add_g]; exact hfb.cell 1, _, by rw [add_g]; exact hfb.cell 2, ?_⟩
  refine (right_ok hok.1 hok.2.1 hok.2.2 w).use ?_
  rintro v w2 ⟨rfl, f2⟩
  have b2 := hb.fr f2 fun h => h
  have fb2 := hfb.fr f2 fun h => h
  refine ⟨_, rfl, ?_⟩
  have top : ∀ {w'}, Fr (fun k => k = b) w2 w' → Fr none1 W w' := fun h => (f.trans' f2).trans h fun k hk e => by have e : k = b := e; omega
  cases hr : rightF (flOf rows) with
  | false =>
    have ep : parseV s = (noFl, 30) := by unfold parseV; rw [e, if_neg]; rintro ⟨_, _, h⟩; rw [hr] at h; cases h
    obtain ⟨⟨u1, z1, u2, z2, u3, z3⟩, ⟨c0, c1, c2⟩, b3, f3⟩ := wr3b b2 (.int .i64 0) (.int .i64 0) (.string eB) _ rfl
    exact cT rfl ⟨u1, z1, u2, z2, u3, z3, _, c0, _, c1, _, c2, ⟨_, by rw [ep]; rfl⟩, top f3⟩
  | true =>
    have ep : parseV s = (flOf rows, 0) := by unfold parseV; rw [e, if_pos ⟨hm, hne, hr⟩]
    obtain ⟨⟨u1, z1, u2, z2, u3, z3⟩, ⟨c0, c1, c2⟩, b3, f3⟩ := wr3b b2 (.int .i64 (flOf rows).W) (.int .i64 (flOf rows).H) (.string (flOf rows).C) _ rfl
    exact cF rfl ⟨_, fb2.cell 0, _, by rw [add_g]; exact fb2.cell 1, _, by rw [add_g]; exact fb2.cell 2, u1, z1, u2, z2, u3, z3, _, c0, _, c1, _, c2, ⟨_, by rw [ep]; rfl⟩, top f3⟩
theorem join_ok (hc : ∀ (j : Nat) x, rows[j]? = some x → w.cell? ⟨bk, 0 + j, none⟩ = some (.string x)) (hbk : bk < w.heap.size) (hcap : rows.length ≤ c) (hm : mays rows = true) (hne : rows ≠ []) : Ret Tryd.prog 24 [.slice (some ⟨bk, 0, none⟩) rows.length c, .string eB] w fun v w' => v = .string (joinB rows) ∧ Fr none1 w w' := by
  have hl := (flOf_ok hm hne).2
  have hj : (Lib.join (rows.map (·.data.toList)) eB.data.toList).length = (joinB rows).size := (ba_size _).symm
  have hjs : (joinB rows).size ≤ 256 := (flOf_ok hm hne).1.1
  refine Calls.mono (Tryd.strings_Join bk 0 c rows eB w hc hbk (by omega) hcap (by rw [hj]; omega)) fun e w' ⟨h1, h2⟩ => ⟨_, h1, rfl, Fr.ofBelow h2⟩
theorem parse_k4 (e : rowsF s = rows) (hm : mays rows = true) (hne : rows ≠ []) (hb : Blk w b 25 (fcell noFl)) (hbW : W.heap.size ≤ b) (hbk : bk < w.heap.size) (hcap : rows.length ≤ c) (hr : Rd w (fun _ => True) (some ⟨bk, 0, none⟩) (strs rows)) (f : Fr none1 W w) : S9_k4 ⟨b, 0, none⟩ (some ⟨bk, 0, none⟩) rows.length c w (PR W s) := by
  unfold S9_k4
  have fd := Fr.drew (F := none1) w
  have b0 := hb.fr fd fun h => h
  have r0 := hr.fr fd fun _ _ _ h => h
  have f0 := f.trans' fd
  have hbk0 : bk < w.drew.heap.size := Nat.lt_of_lt_of_le hbk fd.size
  generalize w.drew = W0 at b0 r0 f0 hbk0 ⊢
  have h0 : 0 < rows.length := List.length_pos_iff.2 hne
  have hx : rows[0]? = some rows[0] := List.getElem?_eq_getElem h0
  have hd : rows.getD 0 eB = rows[0] := getD_of hx
  generalize rows[0] = x at hx hd
  have efl : fcell (flOf rows) = [.int .i64 (x.size : Int), .int .i64 (rows.length : Int), .string (joinB rows)] := by unfold flOf; rw [hd]; rfl
  have ld : ∀ {w1}, Fr none1 W0 w1 → w1.cell? ((⟨bk, 0, none⟩ : Addr).add (Int.toNat 0 * 1)) = some (.string x) := fun f1 => by
    obtain ⟨a, ha, hc⟩ := str_at (r0.fr f1 fun _ _ _ h => h) hx
    cases ha
    exact hc
  have jn : ∀ {w1}, Fr none1 W0 w1 → Ret Tryd.prog 24 [.slice (some ⟨bk, 0, none⟩) rows.length c, .string eB] w1 fun v w' => v = .string (joinB rows) ∧ Fr none1 w1 w' := fun f1 =>
    join_ok (fun j y hy => by
      obtain ⟨a, ha, hc⟩ := str_at (r0.fr f1 fun _ _ _ h => h) hy
      cases ha
      rw [Nat.mul_one, add_go] at hc
      exact hc) (Nat.lt_of_lt_of_le hbk0 f1.size) hcap hm hne
  have fa : Fr none1 W0 (W0.alloc (.cells ⟨[.int .i64 0, .int .i64 0, .string eB]⟩ 25)) := Fr.alloc _ _
  have ba := Blk.new W0 25 [.int .i64 0, .int .i64 0, .string eB]
  -- a floor newly made behind the joining
  have jA : ∀ {w1}, Fr none1 W0 w1 → (∀ P : Prop, (∀ (p1 : ∃ u, (w1.alloc (.cells ⟨[.int .i64 0, .int .i64 0, .string eB]⟩ 25)).cell? ⟨w1.heap.size, 0, none⟩ = some u)
      (p2 : (w1.alloc (.cells ⟨[.int .i64 0, .int .i64 0, .string eB]⟩ 25)).frozen? ⟨w1.heap.size, 0, none⟩ = false)
      (p3 : ∃ u, ((w1.alloc (.cells ⟨[.int .i64 0, .int .i64 0, .string eB]⟩ 25)).setCell ⟨w1.heap.size, 0, none⟩ (.int .i64 (x.size : Int))).cell? ⟨w1.heap.size, 1, none⟩ = some u)
      (p4 : ((w1.alloc (.cells ⟨[.int .i64 0, .int .i64 0, .string eB]⟩ 25)).setCell ⟨w1.heap.size, 0, none⟩ (.int .i64 (x.size : Int))).frozen? ⟨w1.heap.size, 1, none⟩ = false)
      (p5 : ∃ u, (((w1.alloc (.cells ⟨[.int .i64 0, .int .i64 0, .string eB]⟩ 25)).setCell ⟨w1.heap.size, 0, none⟩ (.int .i64 (x.size : Int))).setCell ⟨w1.heap.size, 1, none⟩ (.int .i64 (rows.length : Int))).cell? ⟨w1.heap.size, 2, none⟩ = some u)
      (p6 : (((w1.alloc (.cells ⟨[.int .i64 0, .int .i64 0, .string eB]⟩ 25)).setCell ⟨w1.heap.size, 0, none⟩ (.int .i64 (x.size : Int))).setCell ⟨w1.heap.size, 1, none⟩ (.int .i64 (rows.length : Int))).frozen? ⟨w1.heap.size, 2, none⟩ = false)
      (k : S9_k5 ⟨b, 0, none⟩ (some ⟨bk, 0, none⟩) rows.length c ⟨w1.heap.size, 0, none⟩ ((((w1.alloc (.cells ⟨[.int .i64 0, .int .i64 0, .string eB]⟩ 25)).setCell ⟨w1.heap.size, 0, none⟩ (.int .i64 (x.size : Int))).setCell ⟨w1.heap.size, 1, none⟩ (.int .i64 (rows.length : Int))).setCell ⟨w1.heap.size, 2, none⟩ (.string (joinB rows))) (PR W s)), P) → P) := fun f1 P hP => by
    obtain ⟨p1, p2, p3, p4, p5, p6, b2, f2⟩ := cp3 _ 25 (.int .i64 0) (.int .i64 0) (.string eB) (.int .i64 (x.size : Int)) (.int .i64 (rows.length : Int)) (.string (joinB rows))
    exact hP p1 p2 p3 p4 p5 p6 (parse_k5 e hm hne ((b0.fr f1 fun h => h).fr f2 fun h => h) hbW (by rw [efl]; exact b2) (f0.trans' (f1.trans' f2)) _)
  -- a floor made ahead of it
  have jB : ∀ {w1}, Fr none1 (W0.alloc (.cells ⟨[.int .i64 0, .int .i64 0, .string eB]⟩ 25)) w1 → (∀ P : Prop, (∀ (p1 : ∃ u, w1.cell? ⟨W0.heap.size, 0, none⟩ = some u)
      (p2 : w1.frozen? ⟨W0.heap.size, 0, none⟩ = false)
      (p3 : ∃ u, (w1.setCell ⟨W0.heap.size, 0, none⟩ (.int .i64 (x.size : Int))).cell? ⟨W0.heap.size, 1, none⟩ = some u)
      (p4 : (w1.setCell ⟨W0.heap.size, 0, none⟩ (.int .i64 (x.size : Int))).frozen? ⟨W0.heap.size, 1, none⟩ = false)
      (p5 : ∃ u, ((w1.setCell ⟨W0.heap.size, 0, none⟩ (.int .i64 (x.size : Int))).setCell ⟨W0.heap.size, 1, none⟩ (.int .i64 (rows.length : Int))).cell? ⟨W0.heap.size, 2, none⟩ = some u)
      (p6 : ((w1.setCell ⟨W0.heap.size, 0, none⟩ (.int .i64 (x.size : Int))).setCell ⟨W0.heap.size, 1, none⟩ (.int .i64 (rows.length : Int))).frozen? ⟨W0.heap.size, 2, none⟩ = false)
      (k : S9_k5 ⟨b, 0, none⟩ (some ⟨bk, 0, none⟩) rows.length c ⟨W0.heap.size, 0, none⟩ (((w1.setCell ⟨W0.heap.size, 0, none⟩ (.int .i64 (x.size : Int))).setCell ⟨W0.heap.size, 1, none⟩ (.int .i64 (rows.length : Int))).setCell ⟨W0.heap.size, 2, none⟩ (.string (joinB rows))) (PR W s)), P) → P) := fun f1 P hP => by
    have bf := ba.fr f1 fun h => h
    have b1 := (b0.fr fa fun h => h).fr f1 fun h => h
    have hlt := b0.lt
    obtain ⟨⟨p1, p2, p3, p4, p5, p6⟩, _, b2, f2⟩ := wr3b bf (.int .i64 (x.size : Int)) (.int .i64 (rows.length : Int)) (.string (joinB rows)) _ rfl
    have fz := f0.size
    exact hP p1 p2 p3 p4 p5 p6 (parse_k5 e hm hne (b1.fr f2 (by omega)) hbW (by rw [efl]; exact b2) ((f0.trans' (fa.trans' f1)).trans f2 fun k hk e => by have e : k = W0.heap.size := e; omega) _)
  refine ⟨_, rfl, Int.le_refl _, by omega, ⟨x, ld (Fr.refl _ _), ?_, ?_⟩, ?_, ⟨x, ld fa, ?_⟩, ?_⟩
  · refine (jn (Fr.refl _ _)).use ?_
    rintro v w1 ⟨rfl, f1⟩
    exact jA f1 _ fun p1 p2 p3 p4 p5 p6 k => ⟨_, rfl, p1, p2, p3, p4, p5, p6, k⟩
  · refine (jn fa).use ?_
    rintro v w1 ⟨rfl, f1⟩
    exact jB f1 _ fun p1 p2 p3 p4 p5 p6 k => ⟨_, rfl, p1, p2, p3, p4, p5, p6, k⟩
  · refine (jn (Fr.refl _ _)).use ?_
    rintro v w1 ⟨rfl, f1⟩
    exact jA f1 _ fun p1 p2 p3 p4 p5 p6 k => ⟨_, rfl, x, ld f1, p1, p2, p3, p4, p5, p6, k⟩
  · refine (jn fa).use ?_
    rintro v w1 ⟨rfl, f1⟩
    exact jB f1 _ fun p1 p2 p3 p4 p5 p6 k => ⟨_, rfl, p1, p2, p3, p4, p5, p6, k⟩
  · refine (jn fa).use ?_
    rintro v w1 ⟨rfl, f1⟩
    exact jB f1 _ fun p1 p2 p3 p4 p5 p6 k => ⟨_, rfl, x, ld (fa.trans' f1), p1, p2, p3, p4, p5, p6, k⟩
theorem parse_k0 (e : rowsF s = rows) (hb : Blk w b 25 (fcell noFl)) (hbW : W.heap.size ≤ b) (hbk : bk < w.heap.size) (hcap : rows.length ≤ c) (hlen : rows.length ≤ 1000000) (hr : Rd w (fun _ => True) (some ⟨bk, 0, none⟩) (strs rows)) (f : Fr none1 W w) : S9_k0 ⟨b, 0, none⟩ (some ⟨bk, 0, none⟩) rows.length c w (PR W s) := by
  refine ⟨fun s' w' => ∃ i : Nat, s' = ((i : Int), ()) ∧ i ≤ rows.length ∧ (List.range i).all (fun i => mayB (rows.getD i eB) (rows.getD 0 eB) (i : Int)) = true ∧ Fr none1 w w', fun s' _ => rows.length - s'.1.toNat, ⟨0, rfl, Nat.zero_le _, rfl, Fr.refl _ _⟩, ?_⟩
  rintro J s' w1 ⟨i, rfl, hi, hall, f1⟩
  dsimp only
  have b1 := hb.fr f1 fun h => h
  have fz := f.size
  refine cD (fun hlt => ?_) (fun hlt => ?_)
  · have hi' : i < rows.length := by omega
    have hx : rows[i]? = some rows[i] := List.getElem?_eq_getElem hi'
    have hxd := getD_of hx
    generalize rows[i] = x at hx hxd
    have h0 : 0 < rows.length := by omega
    have hy : rows[0]? = some rows[0] := List.getElem?_eq_getElem h0
    have hyd := getD_of hy
    generalize rows[0] = y at hy hyd
    obtain ⟨a, ha, cx⟩ := str_at (hr.fr f1 fun _ _ _ h => h) hx
    cases ha
    obtain ⟨a, ha, cy⟩ := str_at (hr.fr f1 fun _ _ _ h => h) hy
    cases ha
    refine ⟨_, rfl, by omega, by omega, x, by rw [Int.toNat_natCast]; exact cx, _, rfl, Int.le_refl _, by omega, y, cy, ?_⟩
    refine (may_ok x y (i : Int) w1).use ?_
    rintro v w2 ⟨rfl, f2⟩
    refine ⟨_, rfl, ?_⟩
    have b2 := b1.fr f2 fun h => h
    cases hmb : mayB x y (i : Int) with
    | false =>
      have hbad : mays rows = false := List.all_eq_false.2 ⟨i, List.mem_range.2 hi', by rw [hxd, hyd, hmb]; decide⟩
      have ep : parseV s = (noFl, 30) := by unfold parseV; rw [e, if_neg]; rintro ⟨h, _⟩; rw [hbad] at h; cases h
      obtain ⟨⟨u1, z1, u2, z2, u3, z3⟩, ⟨c0, c1, c2⟩, b3, f3⟩ := wr3b b2 (.int .i64 0) (.int .i64 0) (.string eB) _ rfl
      exact cT rfl ⟨u1, z1, u2, z2, u3, z3, _, c0, _, c1, _, c2, ⟨_, by rw [ep]; rfl⟩, (f.trans' (f1.trans' f2)).trans f3 fun k hk e => by have e : k = b := e; omega⟩
    | true =>
      refine cF rfl ?_
      rw [IntWalk.i64_in _ (by omega)]
      refine ⟨⟨i + 1, rfl, by omega, ?_, f1.trans' f2⟩, by dsimp only; omega⟩
      rw [List.range_succ, List.all_append, hall]
      simp [hxd, hyd, hmb]
      rw [← List.getD_eq_getElem?_getD, ← List.getD_eq_getElem?_getD, hxd, hyd]
      exact hmb
  · have ei : i = rows.length := by omega
    subst ei
    have hm : mays rows = true := hall
    refine cD (fun hz => ?_) (fun hz => ?_)
    · have hnil : rows = [] := List.eq_nil_of_length_eq_zero (by omega)
      have ep : parseV s = (noFl, 30) := by unfold parseV; rw [e, if_neg]; rintro ⟨_, h, _⟩; exact h hnil
      obtain ⟨⟨u1, z1, u2, z2, u3, z3⟩, ⟨c0, c1, c2⟩, b3, f3⟩ := wr3b b1 (.int .i64 0) (.int .i64 0) (.string eB) _ rfl
      exact ⟨u1, z1, u2, z2, u3, z3, _, c0, _, c1, _, c2, ⟨_, by rw [ep]; rfl⟩, (f.trans' f1).trans f3 fun k hk e => by have e : k = b := e; omega⟩
    · exact parse_k4 e hm (fun h => hz (by rw [h]; rfl)) b1 hbW (Nat.lt_of_lt_of_le hbk f1.size) hcap (hr.fr f1 fun _ _ _ h => h) (f.trans' f1)
theorem parse_ok (s : ByteArray) (hs : s.size ≤ 1000) {m : Int} (hm : w.cell? ⟨0, 0, none⟩ = some (.int .i64 m)) (hw : 0 < w.heap.size) : Ret Tryd.prog 9 [.string s] w (PR w s) := by
  apply S9_calls
  have f0 : Fr none1 w (w.alloc (.cells ⟨fcell noFl⟩ 25)) := Fr.alloc _ _
  have b0 := Blk.new w 25 (fcell noFl)
  have es : (w.alloc (.cells ⟨fcell noFl⟩ 25)).heap.size = w.heap.size + 1 := by simp
  have hm0 : (w.alloc (.cells ⟨fcell noFl⟩ 25)).cell? ⟨0, 0, none⟩ = some (.int .i64 m) := by
    rw [← hm]
    unfold World.cell?
    rw [f0.block 0 hw fun h => h]
  have hct : Lib.countB s nlB ≤ s.size := Lib.countB_le nlB (by decide) _ s (Nat.le_refl _)
  refine Calls.mono (Tryd.strings_Split s nlB m _ (by omega) hm0 (by decide)) fun e w' ⟨h1, h2⟩ => ?_
  subst h2
  show ∃ t10_a t10_l t10_c, _
  have hl := allRows_len s
  have lit : Own _ 9 1 _ _ _ _ _ := Own.lit (w.alloc (.cells ⟨fcell noFl⟩ 25)) 9 1 (allRows s).length (strs (allRows s)) (by simp [strs]) (by simp only [maxLen]; omega)
  have f1 : Fr none1 _ ((w.alloc (.cells ⟨fcell noFl⟩ 25)).alloc (.cells ⟨strs (allRows s)⟩ 9)) := Fr.alloc _ _
  have b1 := b0.fr f1 fun h => h
  have hbk : (w.alloc (.cells ⟨fcell noFl⟩ 25)).heap.size < ((w.alloc (.cells ⟨fcell noFl⟩ 25)).alloc (.cells ⟨strs (allRows s)⟩ 9)).heap.size := by simp
  have rd := lit.rd.mono (ok' := fun _ => True) fun _ _ _ => trivial
  have hlast : (allRows s)[Lib.countB s nlB]? = some (allRows s)[Lib.countB s nlB] := List.getElem?_eq_getElem (by omega)
  have ew : IntKind.i64.wrap (((Lib.countB s nlB + 1 : Nat) : Int) - 1) = (Lib.countB s nlB : Int) := by
    rw [IntWalk.i64_in _ (by omega)]; omega
  refine ⟨_, _, _, h1, _, rfl, ?_⟩
  rw [ew, Int.toNat_natCast]
  have eR : rowsF s = if (allRows s)[Lib.countB s nlB]? = some eB then (allRows s).take (Lib.countB s nlB) else allRows s := rfl
  generalize (allRows s)[Lib.countB s nlB] = x at hlast
  obtain ⟨a, ha, hc⟩ := str_at rd hlast
  cases ha
  refine ⟨by omega, by omega, x, hc, ?_⟩
  refine cD (fun hx => ?_) (fun hx => ?_)
  · rw [slAddr_zero]
    refine ⟨by omega, by omega, ?_⟩
    have ek : rowsF s = (allRows s).take (Lib.countB s nlB) := by rw [eR, if_pos (by rw [hlast, hx])]
    have el : ((allRows s).take (Lib.countB s nlB)).length = Lib.countB s nlB - 0 := by rw [List.length_take]; omega
    rw [← el]
    refine parse_k0 ek b1 (Nat.le_refl _) hbk (by omega) (by omega) ?_ (f0.trans' f1)
    unfold strs
    rw [List.map_take]
    exact rd.take _
  · have ek : rowsF s = allRows s := by rw [eR, if_neg (by rw [hlast]; exact fun h => hx (Option.some.inj h))]
    rw [← hl]
    exact parse_k0 ek b1 (Nat.le_refl _) hbk (by omega) (by omega) rd (f0.trans' f1)
end
end Go.Proofs
