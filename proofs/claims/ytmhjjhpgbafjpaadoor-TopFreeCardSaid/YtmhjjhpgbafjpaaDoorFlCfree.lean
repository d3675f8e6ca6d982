/- Floors: kinds of cells; the cells beside one. -/
import Derived.Test.YtmhjjhpgbafjpaaDoorWnDfree
set_option linter.unusedVariables false
set_option maxRecDepth 100000
namespace Go.Proofs
open Go Go.Eng
structure Fl where
  W : Int
  H : Int
  C : ByteArray
def kdB (c : UInt8) : Nat := if c.toNat = 35 then 1 else if 97 ≤ c.toNat ∧ c.toNat ≤ 122 then 2 else if 48 ≤ c.toNat ∧ c.toNat < 56 then 3 else 0
def kdF (C : ByteArray) (i : Nat) : Nat := match C[i]? with
  | some c => kdB c
  | none => 0
theorem ba_get {C : ByteArray} {i : Nat} (h : i < C.size) : ∃ c, C[i]? = some c := ⟨_, getElem?_pos C i h⟩
theorem ba_lt {C : ByteArray} {i : Nat} {c : UInt8} (h : C[i]? = some c) : i < C.size := by
  by_cases hi : i < C.size
  · exact hi
  · rw [getElem?_neg C i hi] at h; cases h
theorem kdF_get {C : ByteArray} {i : Nat} {c : UInt8} (h : C[i]? = some c) : kdF C i = kdB c := by unfold kdF; rw [h]
theorem kind_ok (c : UInt8) (w : World) : Ret Tryd.prog 41 [.int .u8 (c.toNat : Int)] w fun v w' => v = .int .i64 (kdB c : Int) ∧ w' = w := by
  apply S41_calls
  unfold kdB
  refine cD (fun h => ⟨?_, rfl⟩) (fun h => ?_)
  · rw [if_pos (by omega)]; rfl
  · rw [if_neg (by omega)]
    have k0 : ∀ b : Bool, b = decide (97 ≤ c.toNat ∧ c.toNat ≤ 122) → S41_k0 (c.toNat : Int) b w (fun v w' => v = .int .i64 ((if 97 ≤ c.toNat ∧ c.toNat ≤ 122 then 2 else if 48 ≤ c.toNat ∧ c.toNat < 56 then 3 else 0 : Nat) : Int) ∧ w' = w) := by
      intro b hb
      refine cB (fun h => ?_) (fun h => ?_)
      · rw [h] at hb
        have := of_decide_eq_true hb.symm
        rw [if_pos this]; exact ⟨rfl, rfl⟩
      · rw [h] at hb
        have := of_decide_eq_false hb.symm
        rw [if_neg this]
        refine cD (fun h1 => cD (fun h2 => ?_) (fun h2 => ?_)) (fun h1 => cF rfl ?_)
        · rw [if_pos (by omega)]; exact ⟨rfl, rfl⟩
        · rw [if_neg (by omega)]; exact ⟨rfl, rfl⟩
        · rw [if_neg (by omega)]; exact ⟨rfl, rfl⟩
    refine cD (fun h1 => k0 _ ?_) (fun h1 => k0 _ ?_)
    · rw [decide_eq_decide]; omega
    · rw [decide_eq_false (by omega)]
def dirs : List (Int × Int) := [(0, -1), (1, 0), (0, 1), (-1, 0)]
def nb (f : Fl) (cell : Int) (d : Int × Int) : Option Int :=
  if 0 ≤ Int.tmod cell f.W + d.1 ∧ Int.tmod cell f.W + d.1 < f.W ∧ 0 ≤ Int.tdiv cell f.W + d.2 ∧ Int.tdiv cell f.W + d.2 < f.H then some ((Int.tdiv cell f.W + d.2) * f.W + (Int.tmod cell f.W + d.1)) else none
def besideF (f : Fl) (cell : Int) : List Int := dirs.filterMap (nb f cell)
def fcell (f : Fl) : List Value := [.int .i64 f.W, .int .i64 f.H, .string f.C]
def fval (f : Fl) : Value := .agg ⟨fcell f⟩
/-- The sides may be. -/
def Side (f : Fl) : Prop := 1 ≤ f.W ∧ f.W ≤ 16 ∧ 1 ≤ f.H ∧ f.H ≤ 16
theorem nb_bound {f : Fl} (hs : Side f) {cell b : Int} {d : Int × Int} (h : nb f cell d = some b) : 0 ≤ b ∧ b < f.W * f.H := by
  unfold nb at h
  split at h
  · rename_i hc
    cases h
    obtain ⟨h1, h2, h3, h4⟩ := hc
    obtain ⟨s1, s2, s3, s4⟩ := hs
    generalize Int.tdiv cell f.W + d.2 = q at *
    generalize Int.tmod cell f.W + d.1 = p at *
    have a1 : 0 ≤ q * f.W := Int.mul_nonneg h3 (by omega)
    have a2 : q * f.W ≤ (f.H - 1) * f.W := Int.mul_le_mul_of_nonneg_right (by omega) (by omega)
    have a3 : (f.H - 1) * f.W = f.W * f.H - f.W := by rw [Int.sub_mul, Int.one_mul, Int.mul_comm]
    omega
  · cases h
theorem beside_bound {f : Fl} (hs : Side f) {cell b : Int} (h : b ∈ besideF f cell) : 0 ≤ b ∧ b < f.W * f.H := by
  unfold besideF at h
  obtain ⟨d, _, hd⟩ := List.mem_filterMap.1 h
  exact nb_bound hs hd
theorem side_mul {f : Fl} (hs : Side f) : 1 ≤ f.W * f.H ∧ f.W * f.H ≤ 256 := by
  obtain ⟨s1, s2, s3, s4⟩ := hs
  have a1 : f.W * f.H ≤ 16 * f.H := Int.mul_le_mul_of_nonneg_right s2 (by omega)
  have a2 : 1 * f.H ≤ f.W * f.H := Int.mul_le_mul_of_nonneg_right s1 (by omega)
  omega
theorem beside_len (f : Fl) (cell : Int) : (besideF f cell).length ≤ 4 := by
  have := List.length_filterMap_le (nb f cell) dirs
  exact this
theorem Ein : ElT Tryd.prog 79 3 1 8 := elT_of (by kernel_rfl)
theorem app_int {w : World} {ok : Nat → Prop} {A : Option Addr} {c : Nat} {xs : List Int} (h : Own w 3 1 ok A xs.length c (ints xs)) (x : Int) (hl : xs.length ≤ 100000) :
    ∃ A' c' w', (Builtin.append_ #[79, 79] 79 ⟨[.slice A xs.length c, .slice (some ⟨w.heap.size, 0, none⟩) 1 1]⟩).run Tryd.prog (w.alloc (.cells ⟨[.int .i64 x]⟩ 3)) = .ok (.slice A' (xs ++ [x]).length c') w' ∧ Own w' 3 1 (fun k => ok k ∨ w.heap.size ≤ k) A' (xs ++ [x]).length c' (ints (xs ++ [x])) ∧ Fr (ownAt A) w w' := by
  have fa : Fr none1 w (w.alloc (.cells ⟨[.int .i64 x]⟩ 3)) := Fr.alloc _ _
  have es : (w.alloc (.cells ⟨[.int .i64 x]⟩ 3)).heap.size = w.heap.size + 1 := by simp
  have lit := Own.lit w 3 1 1 [.int .i64 x] rfl (by simp [maxLen])
  obtain ⟨A', c', w', r, o, f, _⟩ := run_append (ty := 79) (m := 1) (c2 := 1) Ein (h.fr fa fun _ _ _ h => h) rfl lit.rd (fun v hv => by simp at hv; subst hv; rfl) (by omega) (by simp only [maxLen]; omega)
  refine ⟨A', c', w', by rw [List.length_append]; exact r, ?_, (fa.mono fun _ _ h => h.elim).trans' f⟩
  have e : ints (xs ++ [x]) = ints xs ++ [.int .i64 x] := by unfold ints; rw [List.map_append]; rfl
  rw [e, List.length_append]
  exact o.mono fun k _ hk => hk.imp id fun h => by omega
theorem rd_int {w : World} {ok : Nat → Prop} {A : Option Addr} {xs : List Int} (h : Rd w ok A (ints xs)) {i : Nat} {x : Int} (hx : xs[i]? = some x) : ∃ a, A = some a ∧ w.cell? (a.add (Int.toNat (i : Int) * 1)) = some (.int .i64 x) := by
  obtain ⟨a, ha, _, hc⟩ := h.at (ints_get hx)
  exact ⟨a, ha, by rw [Int.toNat_natCast, Nat.mul_one]; exact hc⟩
theorem nb_wrap {f : Fl} (hs : Side f) {cell : Int} (hc : 0 ≤ cell ∧ cell < 100000) (d : Int × Int) (hd : d ∈ dirs) :
    0 ≤ Int.tmod cell f.W ∧ Int.tmod cell f.W < f.W ∧ 0 ≤ Int.tdiv cell f.W ∧ Int.tdiv cell f.W ≤ 100000 ∧ IntKind.i64.wrap (Int.tdiv cell f.W) = Int.tdiv cell f.W ∧ IntKind.i64.wrap (Int.tmod cell f.W + d.1) = Int.tmod cell f.W + d.1 ∧ IntKind.i64.wrap (Int.tdiv cell f.W + d.2) = Int.tdiv cell f.W + d.2 := by
  obtain ⟨s1, s2, s3, s4⟩ := hs
  have e1 : Int.tmod cell f.W = cell % f.W := Int.tmod_eq_emod_of_nonneg hc.1
  have e2 : Int.tdiv cell f.W = cell / f.W := Int.tdiv_eq_ediv_of_nonneg hc.1
  have m1 := Int.emod_nonneg cell (show f.W ≠ 0 by omega)
  have m2 := Int.emod_lt_of_pos cell (show 0 < f.W by omega)
  have m3 : 0 ≤ cell / f.W := Int.ediv_nonneg hc.1 (by omega)
  have m4 : cell / f.W ≤ cell := Int.ediv_le_self _ hc.1
  have m5 : -1 ≤ d.1 ∧ d.1 ≤ 1 ∧ -1 ≤ d.2 ∧ d.2 ≤ 1 := by
    simp [dirs] at hd
    rcases hd with rfl | rfl | rfl | rfl <;> simp
  rw [e1, e2]
  refine ⟨m1, m2, m3, by omega, IntWalk.i64_in _ (by omega), IntWalk.i64_in _ (by omega), IntWalk.i64_in _ (by omega)⟩
theorem nb_val {f : Fl} (hs : Side f) {p q : Int} (h : 0 ≤ p ∧ p < f.W ∧ 0 ≤ q ∧ q < f.H) : IntKind.i64.wrap (IntKind.i64.wrap (q * f.W) + p) = q * f.W + p := by
  obtain ⟨s1, s2, s3, s4⟩ := hs
  obtain ⟨h1, h2, h3, h4⟩ := h
  have a1 : 0 ≤ q * f.W := Int.mul_nonneg h3 (by omega)
  have a2 : q * f.W ≤ 16 * f.W := Int.mul_le_mul_of_nonneg_right (by omega) (by omega)
  rw [IntWalk.i64_in (q * f.W) (by omega), IntWalk.i64_in _ (by omega)]
theorem beside_ok {f : Fl} (hs : Side f) {cell : Int} (hc : 0 ≤ cell ∧ cell < 100000) (w : World) : Ret Tryd.prog 47 [fval f, .int .i64 cell] w fun v w' => ∃ A c, v = .slice A (besideF f cell).length c ∧ Own w' 3 1 (from1 w.heap.size) A (besideF f cell).length c (ints (besideF f cell)) ∧ Fr none1 w w' := by
  apply S47_calls
  have b0 := Blk.new w 25 (fcell f)
  have f0 : Fr none1 w (w.alloc (.cells ⟨fcell f⟩ 25)) := Fr.alloc _ _
  have fd : Fr none1 (w.alloc (.cells ⟨fcell f⟩ 25)) (w.alloc (.cells ⟨fcell f⟩ 25)).drew := Fr.drew _
  have b1 := b0.fr fd fun h => h
  have f1 := f0.trans' fd
  have hW : f.W ≠ 0 := by have := hs.1; omega
  have key : S47_k0 ⟨w.heap.size, 0, none⟩ (Int.tmod cell f.W) (IntKind.i64.wrap (Int.tdiv cell f.W)) (w.alloc (.cells ⟨fcell f⟩ 25)).drew (fun v w' => ∃ A c, v = .slice A (besideF f cell).length c ∧ Own w' 3 1 (from1 w.heap.size) A (besideF f cell).length c (ints (besideF f cell)) ∧ Fr none1 w w') := by
    obtain ⟨m1, m2, m3, m4, m5, _, _⟩ := nb_wrap hs hc (0, -1) (by simp [dirs])
    rw [m5]
    generalize (w.alloc (.cells ⟨fcell f⟩ 25)).drew = w1 at b1 f1 ⊢
    have hs1 := f1.size
    refine ⟨fun s w' => ∃ (j : Nat) (A : Option Addr) (c : Nat), s = ((A, ((dirs.take j).filterMap (nb f cell)).length, c), (j : Int), ()) ∧ j ≤ 4 ∧ Own w' 3 1 (fun k => w.heap.size < k) A ((dirs.take j).filterMap (nb f cell)).length c (ints ((dirs.take j).filterMap (nb f cell))) ∧ Blk w' w.heap.size 25 (fcell f) ∧ Fr none1 w w', fun s _ => 4 - s.2.1.toNat, ⟨0, none, 0, rfl, by omega, Own.nil _ _ _ _, b1, f1⟩, ?_⟩
    rintro J s w2 ⟨j, A, c, rfl, hj, o, b2, f2⟩
    dsimp only
    have hlen : ((dirs.take j).filterMap (nb f cell)).length ≤ 100 := Nat.le_trans (List.length_filterMap_le _ _) (by rw [List.length_take]; omega)
    refine cD (fun hlt => ?_) (fun hlt => ?_)
    · have hj4 : j < 4 := by omega
      -- one direction
      have one : ∀ (d : Int × Int), dirs[j]? = some d → ∀ w3, Fr none1 w2 w3 → S47_k3 ⟨w.heap.size, 0, none⟩ (Int.tmod cell f.W) (Int.tdiv cell f.W) A ((dirs.take j).filterMap (nb f cell)).length c (IntKind.i64.wrap (Int.tmod cell f.W + d.1)) (IntKind.i64.wrap (Int.tdiv cell f.W + d.2)) 0 (-1) 1 0 0 1 (-1) 0 (j : Int) w3 (fun v w' => ∃ A c, v = .slice A (besideF f cell).length c ∧ Own w' 3 1 (from1 w.heap.size) A (besideF f cell).length c (ints (besideF f cell)) ∧ Fr none1 w w')
          (fun s' w'' => (∃ (j : Nat) (A : Option Addr) (c : Nat), s' = ((A, ((dirs.take j).filterMap (nb f cell)).length, c), (j : Int), ()) ∧ j ≤ 4 ∧ Own w'' 3 1 (fun k => w.heap.size < k) A ((dirs.take j).filterMap (nb f cell)).length c (ints ((dirs.take j).filterMap (nb f cell))) ∧ Blk w'' w.heap.size 25 (fcell f) ∧ Fr none1 w w'') ∧ 4 - s'.2.1.toNat < 4 - (j : Int).toNat) := by
        intro d hd w3 f3
        obtain ⟨_, _, _, _, _, e1, e2⟩ := nb_wrap hs hc d (List.mem_of_getElem? hd)
        rw [e1, e2]
        have o3 := o.fr f3 fun _ _ _ h => h
        have b3 := b2.fr f3 fun h => h
        have f13 := f2.trans' f3
        have hs3 := f13.size
        have htk : (dirs.take (j + 1)).filterMap (nb f cell) = (dirs.take j).filterMap (nb f cell) ++ (nb f cell d).toList := by
          rw [List.take_add_one, hd, List.filterMap_append]
          cases e : nb f cell d <;> simp [e]
        have k4 : ∀ b : Bool, b = decide (0 ≤ Int.tmod cell f.W + d.1 ∧ Int.tmod cell f.W + d.1 < f.W ∧ 0 ≤ Int.tdiv cell f.W + d.2 ∧ Int.tdiv cell f.W + d.2 < f.H) → S47_k4 ⟨w.heap.size, 0, none⟩ (Int.tmod cell f.W) (Int.tdiv cell f.W) A ((dirs.take j).filterMap (nb f cell)).length c (Int.tmod cell f.W + d.1) (Int.tdiv cell f.W + d.2) 0 (-1) 1 0 0 1 (-1) 0 (j : Int) b w3 (fun v w' => ∃ A c, v = .slice A (besideF f cell).length c ∧ Own w' 3 1 (from1 w.heap.size) A (besideF f cell).length c (ints (besideF f cell)) ∧ Fr none1 w w')
          (fun s' w'' => (∃ (j : Nat) (A : Option Addr) (c : Nat), s' = ((A, ((dirs.take j).filterMap (nb f cell)).length, c), (j : Int), ()) ∧ j ≤ 4 ∧ Own w'' 3 1 (fun k => w.heap.size < k) A ((dirs.take j).filterMap (nb f cell)).length c (ints ((dirs.take j).filterMap (nb f cell))) ∧ Blk w'' w.heap.size 25 (fcell f) ∧ Fr none1 w w'') ∧ 4 - s'.2.1.toNat < 4 - (j : Int).toNat) := by
          intro b hb
          refine cB (fun h => ?_) (fun h => ?_)
          · rw [h] at hb
            have hp := of_decide_eq_true hb.symm
            have ev : nb f cell d = some ((Int.tdiv cell f.W + d.2) * f.W + (Int.tmod cell f.W + d.1)) := if_pos hp
            rw [ev] at htk
            refine ⟨_, b3.cell 0, ?_⟩
            rw [nb_val hs hp]
            obtain ⟨A', c', w4, r4, o4, f4⟩ := app_int o3 ((Int.tdiv cell f.W + d.2) * f.W + (Int.tmod cell f.W + d.1)) (by omega)
            refine ⟨A', _, c', w4, r4, ?_⟩
            rw [IntWalk.i64_in _ (by omega)]
            rw [show (some ((Int.tdiv cell f.W + d.2) * f.W + (Int.tmod cell f.W + d.1))).toList = [(Int.tdiv cell f.W + d.2) * f.W + (Int.tmod cell f.W + d.1)] from rfl] at htk
            rw [← htk] at o4 ⊢
            refine ⟨⟨j + 1, A', c', rfl, by omega, o4.mono fun k _ hk => hk.elim id fun h => ?_, b3.fr f4 fun ⟨a, ha, e⟩ => o3.ne_blk b3 (by decide) a ha e, f13.trans f4 fun k hk ⟨a, ha, e⟩ => ?_⟩, by dsimp only; omega⟩
            · have := b3.lt
              show w.heap.size < k
              omega
            · have := (o3.has a ha).1
              omega
          · rw [h] at hb
            have hp := of_decide_eq_false hb.symm
            have ev : nb f cell d = none := if_neg hp
            rw [ev, show (none : Option Int).toList = [] from rfl, List.append_nil] at htk
            rw [IntWalk.i64_in _ (by omega), ← htk]
            rw [← htk] at o3
            exact ⟨⟨j + 1, A, c, rfl, by omega, o3, b3, f13⟩, by dsimp only; omega⟩
        refine cD (fun h1 => ⟨_, b3.cell 0, cD (fun h2 => cD (fun h3 => ⟨_, b3.cell 1, k4 _ ?_⟩) (fun h3 => k4 _ ?_)) (fun h2 => k4 _ ?_)⟩) (fun h1 => k4 _ ?_)
        · rw [decide_eq_decide]; omega
        · rw [decide_eq_false (by omega)]
        · rw [decide_eq_false (by omega)]
        · rw [decide_eq_false (by omega)]
      -- the array's element
      have el : ∀ (a b : Int), dirs[j]? = some (a, b) →
          (∃ u, (w2.alloc (.cells ⟨[.int .i64 0, .int .i64 0]⟩ 119)).cell? ⟨w2.heap.size, 0, none⟩ = some u) ∧ (w2.alloc (.cells ⟨[.int .i64 0, .int .i64 0]⟩ 119)).frozen? ⟨w2.heap.size, 0, none⟩ = false ∧
          (∃ u, ((w2.alloc (.cells ⟨[.int .i64 0, .int .i64 0]⟩ 119)).setCell ⟨w2.heap.size, 0, none⟩ (.int .i64 a)).cell? ⟨w2.heap.size, 1, none⟩ = some u) ∧ ((w2.alloc (.cells ⟨[.int .i64 0, .int .i64 0]⟩ 119)).setCell ⟨w2.heap.size, 0, none⟩ (.int .i64 a)).frozen? ⟨w2.heap.size, 1, none⟩ = false ∧
          ∃ w3, w3 = (((w2.alloc (.cells ⟨[.int .i64 0, .int .i64 0]⟩ 119)).setCell ⟨w2.heap.size, 0, none⟩ (.int .i64 a)).setCell ⟨w2.heap.size, 1, none⟩ (.int .i64 b)).drew ∧ Fr none1 w2 w3 ∧ w3.cell? (Addr.add ⟨w2.heap.size, 0, none⟩ (Int.toNat 0 * 1)) = some (.int .i64 a) ∧ w3.cell? (Addr.add ⟨w2.heap.size, 0, none⟩ (Int.toNat 1 * 1)) = some (.int .i64 b) := by
        intro a b hd
        obtain ⟨p1, p2, p3, p4, b3, f3⟩ := cp2 w2 119 (.int .i64 0) (.int .i64 0) (.int .i64 a) (.int .i64 b)
        have f4 := f3.trans' (Fr.drew _)
        have b4 := b3.fr (Fr.drew _ : Fr none1 _ _) fun h => h
        exact ⟨p1, p2, p3, p4, _, rfl, f4, b4.cell 0, b4.cell 1⟩
      refine ⟨by omega, by omega, fun e => ?_, fun e => ?_, fun e => ?_, fun e => ?_⟩
      · have ej : j = 0 := by omega
        have hdj : dirs[j]? = some (0, -1) := by rw [ej]; rfl
        obtain ⟨p1, p2, p3, p4, w3, e3, f3, q0, q1⟩ := el _ _ hdj
        refine ⟨p1, p2, p3, p4, by decide, by decide, by decide, by decide, ?_, ?_⟩
        · rw [← e3]
          exact ⟨_, q0, _, q1, one _ hdj w3 f3⟩
        · rw [← e3]
          exact ⟨_, q1, _, q0, one _ hdj w3 f3⟩
      · have ej : j = 1 := by omega
        have hdj : dirs[j]? = some (1, 0) := by rw [ej]; rfl
        obtain ⟨p1, p2, p3, p4, w3, e3, f3, q0, q1⟩ := el _ _ hdj
        refine ⟨p1, p2, p3, p4, by decide, by decide, by decide, by decide, ?_, ?_⟩
        · rw [← e3]
          exact ⟨_, q0, _, q1, one _ hdj w3 f3⟩
        · rw [← e3]
          exact ⟨_, q1, _, q0, one _ hdj w3 f3⟩
      · have ej : j = 2 := by omega
        have hdj : dirs[j]? = some (0, 1) := by rw [ej]; rfl
        obtain ⟨p1, p2, p3, p4, w3, e3, f3, q0, q1⟩ := el _ _ hdj
        refine ⟨p1, p2, p3, p4, by decide, by decide, by decide, by decide, ?_, ?_⟩
        · rw [← e3]
          exact ⟨_, q0, _, q1, one _ hdj w3 f3⟩
        · rw [← e3]
          exact ⟨_, q1, _, q0, one _ hdj w3 f3⟩
      · have ej : j = 3 := by omega
        have hdj : dirs[j]? = some (-1, 0) := by rw [ej]; rfl
        obtain ⟨p1, p2, p3, p4, w3, e3, f3, q0, q1⟩ := el _ _ hdj
        refine ⟨p1, p2, p3, p4, by decide, by decide, by decide, by decide, ?_, ?_⟩
        · rw [← e3]
          exact ⟨_, q0, _, q1, one _ hdj w3 f3⟩
        · rw [← e3]
          exact ⟨_, q1, _, q0, one _ hdj w3 f3⟩
    · have e4 : j = 4 := by omega
      subst e4
      exact ⟨A, c, rfl, o.mono fun k _ h => Nat.le_of_lt h, f2⟩
  exact ⟨⟨_, b1.cell 0, hW, _, b1.cell 0, hW, key⟩, ⟨_, b1.cell 0, hW, _, b1.cell 0, hW, key⟩⟩
end Go.Proofs
