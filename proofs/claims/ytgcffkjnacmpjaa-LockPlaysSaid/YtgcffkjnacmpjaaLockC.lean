import Derived.Test.YtgcffkjnacmpjaaS09
import Derived.Test.YtgcffkjnacmpjaaHp4
set_option linter.unusedVariables false
namespace Go.Proofs
open Go Go.Eng
theorem E31 : ElT Try.prog 31 3 1 8 := elT_of (by kernel_rfl)
abbrev Tab := Nat → Int
def TabAt (w : World) (t : Nat) (T : Tab) : Prop := Blk w t 48 (arr 26 T) ∧ ∀ i, 0 ≤ T i ∧ T i ≤ 8
theorem TabAt.fr {F : Nat → Prop} {w w' : World} {t : Nat} {T : Tab} (h : TabAt w t T) (hf : Fr F w w') (ht : ¬ F t) : TabAt w' t T := ⟨h.1.fr hf ht, h.2⟩
def valid (r z : Int) : Prop := 0 ≤ r ∧ r < 8 ∧ 0 ≤ z ∧ z < 26
instance (r z : Int) : Decidable (valid r z) := by unfold valid; exact inferInstance
def holdE (T : Tab) (r z : Int) : Int := if valid r z then (if T z.toNat ≠ 0 ∧ T z.toNat ≠ r + 1 then 3 else 0) else 1
def holdT (T : Tab) (r z : Int) : Tab := if holdE T r z = 0 then upd T z.toNat (r + 1) else T
def relE (T : Tab) (r z : Int) : Int := if valid r z then (if T z.toNat ≠ r + 1 then 2 else 0) else 1
def relT (T : Tab) (r z : Int) : Tab := if relE T r z = 0 then upd T z.toNat 0 else T
def owned (T : Tab) (z : Int) : Bool := decide (0 ≤ z ∧ z < 26 ∧ T z.toNat ≠ 0)
def ownR (T : Tab) (z : Int) : Int := if owned T z then T z.toNat - 1 else 0
def upto (T : Tab) (o : Int) (n : Nat) : List Int := ((List.range n).filter fun i => decide (T i = o)).map Int.ofNat
def zonesOf (T : Tab) (o : Int) : List Int := upto T o 26
def robots (T : Tab) (r : Int) : List Int := if 0 ≤ r ∧ r < 8 then zonesOf T (r + 1) else []
theorem new_ok (w : World) : Ret Try.prog 8 [] w fun v w' => ∃ t, v = .pointer (some ⟨t, 0, none⟩) ∧ w.heap.size ≤ t ∧ TabAt w' t (fun _ => 0) ∧ Fr none1 w w' := by
  apply S8_calls
  exact ⟨_, rfl, Nat.le_refl _, ⟨Blk.new w 48 _, fun _ => ⟨Int.le_refl 0, (by decide : (0 : Int) ≤ 8)⟩⟩, Fr.alloc _ _⟩
theorem may_ok (t : Nat) (r z : Int) (w : World) : Ret Try.prog 24 [.pointer (some ⟨t, 0, none⟩), .int .i64 r, .int .i64 z] w fun v w' => v = .int .i64 (if valid r z then 0 else 1) ∧ w' = w := by
  apply S24_calls
  refine cF rfl ?_
  refine cD (fun h => ?_) (fun h1 => cD (fun h => ?_) (fun h2 => cD (fun h => ?_) (fun h3 => cD (fun h => ?_) (fun h4 => ?_))))
  · exact cT rfl ⟨by rw [if_neg]; unfold valid; omega, rfl⟩
  · exact cT rfl ⟨by rw [if_neg]; unfold valid; omega, rfl⟩
  · exact cT rfl ⟨by rw [if_neg]; unfold valid; omega, rfl⟩
  · exact ⟨by rw [if_neg]; unfold valid; omega, rfl⟩
  · exact ⟨by rw [if_pos]; unfold valid; omega, rfl⟩
theorem cellT {w : World} {t : Nat} {T : Tab} (h : TabAt w t T) {z : Int} (h0 : 0 ≤ z) (h1 : z < 26) : w.cell? (Addr.add ⟨t, 0, none⟩ (Int.toNat z * 1)) = some (.int .i64 (T z.toNat)) := by
  rw [add_g, h.1.cell, Nat.mul_one, arr_get (by omega)]
theorem setT {w : World} {t : Nat} {T : Tab} (h : TabAt w t T) {z : Int} (h0 : 0 ≤ z) (h1 : z < 26) {v : Int} (hv : 0 ≤ v ∧ v ≤ 8) :
    (∃ u, w.cell? (Addr.add ⟨t, 0, none⟩ (Int.toNat z * 1)) = some u) ∧ w.frozen? (Addr.add ⟨t, 0, none⟩ (Int.toNat z * 1)) = false ∧
    TabAt (w.setCell (Addr.add ⟨t, 0, none⟩ (Int.toNat z * 1)) (.int .i64 v)) t (upd T z.toNat v) ∧ Fr (fun k => k = t) w (w.setCell (Addr.add ⟨t, 0, none⟩ (Int.toNat z * 1)) (.int .i64 v)) := by
  refine ⟨⟨_, cellT h h0 h1⟩, ?_, ⟨?_, fun i => ?_⟩, ?_⟩
  · rw [add_g]; exact h.1.free _
  · rw [add_g, Nat.mul_one, ← arr_set]; exact h.1.set _ _
  · unfold upd; split
    · exact hv
    · exact h.2 i
  · rw [add_g]; exact Fr.setCell (F := fun k => k = t) w rfl _
theorem hold_ok {w : World} {t : Nat} {T : Tab} (h : TabAt w t T) {r z : Int} (hr : IntKind.i64.min ≤ r ∧ r ≤ IntKind.i64.max) : Ret Try.prog 20 [.pointer (some ⟨t, 0, none⟩), .int .i64 r, .int .i64 z] w fun v w' => v = .int .i64 (holdE T r z) ∧ TabAt w' t (holdT T r z) ∧ Fr (fun k => k = t) w w' := by
  apply S20_calls
  refine (may_ok t r z w).use ?_
  rintro v w ⟨rfl, rfl⟩
  refine ⟨_, rfl, ?_⟩
  by_cases hv : valid r z
  · have hv' := hv
    obtain ⟨h0, h1, h2, h3⟩ := hv'
    rw [if_pos hv]
    refine cF rfl ⟨_, rfl, h2, h3, _, cellT h h2 h3, ?_⟩
    rw [IntWalk.i64_in (r + 1) (by omega)]
    have k : S20_k2 (some ⟨t, 0, none⟩) r z w fun v w' => v = .int .i64 0 ∧ TabAt w' t (upd T z.toNat (r + 1)) ∧ Fr (fun k => k = t) w w' := by
      obtain ⟨e1, e2, e3, e4⟩ := setT h h2 h3 (v := r + 1) (by omega)
      unfold S20_k2
      rw [IntWalk.i64_in (r + 1) (by omega)]
      exact ⟨_, rfl, h2, h3, e1, e2, rfl, e3, e4⟩
    unfold holdT holdE
    rw [if_pos hv]
    refine cN (fun h4 => ?_) (fun h4 => ?_)
    · refine cN (fun h5 => ?_) (fun h5 => ?_)
      · rw [if_pos ⟨h4, h5⟩]; exact ⟨rfl, h, Fr.refl _ _⟩
      · rw [if_neg (by omega)]; exact k
    · rw [if_neg (by omega)]; exact cF rfl k
  · rw [if_neg hv]
    unfold holdT holdE
    rw [if_neg hv]
    exact cT rfl ⟨rfl, h, Fr.refl _ _⟩
theorem rel_ok {w : World} {t : Nat} {T : Tab} (h : TabAt w t T) {r z : Int} (hr : IntKind.i64.min ≤ r ∧ r ≤ IntKind.i64.max) : Ret Try.prog 21 [.pointer (some ⟨t, 0, none⟩), .int .i64 r, .int .i64 z] w fun v w' => v = .int .i64 (relE T r z) ∧ TabAt w' t (relT T r z) ∧ Fr (fun k => k = t) w w' := by
  apply S21_calls
  refine (may_ok t r z w).use ?_
  rintro v w ⟨rfl, rfl⟩
  refine ⟨_, rfl, ?_⟩
  by_cases hv : valid r z
  · have hv' := hv
    obtain ⟨h0, h1, h2, h3⟩ := hv'
    rw [if_pos hv]
    refine cF rfl ⟨_, rfl, h2, h3, _, cellT h h2 h3, ?_⟩
    rw [IntWalk.i64_in (r + 1) (by omega)]
    unfold relT relE
    rw [if_pos hv]
    refine cN (fun h4 => ?_) (fun h4 => ?_)
    · rw [if_pos h4]; exact ⟨rfl, h, Fr.refl _ _⟩
    · rw [if_neg (by omega)]
      obtain ⟨e1, e2, e3, e4⟩ := setT h h2 h3 (v := 0) (by omega)
      exact ⟨_, rfl, h2, h3, e1, e2, rfl, e3, e4⟩
  · rw [if_neg hv]
    unfold relT relE
    rw [if_neg hv]
    exact cT rfl ⟨rfl, h, Fr.refl _ _⟩
theorem owner_ok {w : World} {t : Nat} {T : Tab} (h : TabAt w t T) (z : Int) : Ret Try.prog 15 [.pointer (some ⟨t, 0, none⟩), .int .i64 z] w fun v w' => v = .tuple ⟨[.int .i64 (ownR T z), .bool (owned T z)]⟩ ∧ w' = w := by
  apply S15_calls
  have no : ¬ (0 ≤ z ∧ z < 26 ∧ T z.toNat ≠ 0) → Value.tuple ⟨[.int .i64 0, .bool false]⟩ = .tuple ⟨[.int .i64 (ownR T z), .bool (owned T z)]⟩ := fun h => by
    have : owned T z = false := by simp [owned]; intro a b; by_cases e : T z.toNat = 0; exact e; exact absurd ⟨a, b, e⟩ h
    simp [ownR, this]
  refine cF rfl (cD (fun h0 => ?_) (fun h0 => cD (fun h1 => ?_) (fun h1 => ?_)))
  · exact cT rfl ⟨no (by omega), rfl⟩
  · exact cT rfl ⟨no (by omega), rfl⟩
  · refine ⟨_, rfl, by omega, by omega, _, cellT h (by omega) (by omega), ?_⟩
    refine cD (fun h2 => ?_) (fun h2 => ?_)
    · exact ⟨no (by omega), rfl⟩
    · refine ⟨_, rfl, by omega, by omega, _, cellT h (by omega) (by omega), ?_⟩
      have hb := h.2 z.toNat
      rw [IntWalk.i64_in (T z.toNat - 1) (by omega)]
      have : owned T z = true := by simp [owned]; exact ⟨by omega, by omega, h2⟩
      exact ⟨by simp [ownR, this], rfl⟩
theorem upto_succ (T : Tab) (o : Int) (n : Nat) : upto T o (n + 1) = upto T o n ++ if T n = o then [(n : Int)] else [] := by
  unfold upto
  rw [List.range_succ, List.filter_append, List.map_append]
  by_cases h : T n = o
  · simp [h]
  · simp [h]
theorem some_ok {w : World} {t : Nat} {T : Tab} (h : TabAt w t T) (o : Int) : Ret Try.prog 22 [.pointer (some ⟨t, 0, none⟩), .int .i64 o] w fun v w' => ∃ A c, v = .slice A (zonesOf T o).length c ∧ Own w' 3 1 (bw w.heap.size w') A (zonesOf T o).length c (ints (zonesOf T o)) ∧ Fr none1 w w' := by
  apply S22_calls
  refine cF rfl ?_
  have hlt := h.1.lt
  refine ⟨fun s w' => ∃ n : Nat, s.2.1 = (n : Int) ∧ n ≤ 26 ∧ s.1.2.1 = (upto T o n).length ∧ Own w' 3 1 (bw w.heap.size w') s.1.1 (upto T o n).length s.1.2.2 (ints (upto T o n)) ∧ Bel w.heap.size w w', fun s _ => 26 - s.2.1.toNat, ⟨0, rfl, by omega, rfl, Own.nil _ _ _ _, Fr.refl _ _⟩, ?_⟩
  rintro J ⟨⟨A, l, c⟩, i, ⟨⟩⟩ w1 ⟨n, hi, hn, hl, o1, g1⟩
  dsimp only at hi hl o1 ⊢
  subst hi hl
  have T1 := h.fr g1.top (fun h => h)
  refine cD (fun hlt => ?_) (fun hlt => ?_)
  · have hlen : (upto T o n).length ≤ n := by
      unfold upto; rw [List.length_map]; refine Nat.le_trans (List.length_filter_le _ _) (by simp)
    refine ⟨_, rfl, by omega, by omega, _, cellT T1 (by omega) (by omega), ?_⟩
    rw [IntWalk.i64_in ((n : Int) + 1) (by omega), Int.toNat_natCast]
    refine cD (fun he => ?_) (fun he => ?_)
    · obtain ⟨A', c', w2, r2, o2, f2, g2⟩ := app1 (ty := 31) E31 o1 g1.size (.int .i64 (n : Int)) rfl (by omega) (by simp only [maxLen]; omega)
      have e : upto T o (n + 1) = upto T o n ++ [(n : Int)] := by rw [upto_succ, if_pos he]
      refine ⟨A', _, c', w2, r2, ⟨n + 1, by simp, by omega, by simp [e], ?_, g1.trans' g2⟩, by dsimp only; omega⟩
      rw [e]
      simpa [ints] using o2
    · have e : upto T o (n + 1) = upto T o n := by rw [upto_succ, if_neg he, List.append_nil]
      exact ⟨⟨n + 1, by simp, by omega, by rw [e], by rw [e]; exact o1, g1⟩, by dsimp only; omega⟩
  · have : n = 26 := by omega
    subst this
    exact ⟨A, c, rfl, o1, g1.top⟩
theorem free_ok {w : World} {t : Nat} {T : Tab} (h : TabAt w t T) : Ret Try.prog 18 [.pointer (some ⟨t, 0, none⟩)] w fun v w' => ∃ A c, v = .slice A (zonesOf T 0).length c ∧ Own w' 3 1 (bw w.heap.size w') A (zonesOf T 0).length c (ints (zonesOf T 0)) ∧ Fr none1 w w' := by
  apply S18_calls
  refine (some_ok h 0).use ?_
  rintro v w' ⟨A, c, rfl, o1, f1⟩
  exact ⟨_, _, _, rfl, A, c, rfl, o1, f1⟩
theorem of_ok {w : World} {t : Nat} {T : Tab} (h : TabAt w t T) (r : Int) : Ret Try.prog 11 [.pointer (some ⟨t, 0, none⟩), .int .i64 r] w fun v w' => ∃ A c, v = .slice A (robots T r).length c ∧ Own w' 3 1 (bw w.heap.size w') A (robots T r).length c (ints (robots T r)) ∧ Fr none1 w w' := by
  apply S11_calls
  have no : ¬ (0 ≤ r ∧ r < 8) → ∃ A c, Value.slice none 0 0 = .slice A (robots T r).length c ∧ Own w 3 1 (bw w.heap.size w) A (robots T r).length c (ints (robots T r)) ∧ Fr none1 w w := fun h => by
    unfold robots; rw [if_neg h]; exact ⟨none, 0, rfl, Own.nil _ _ _ _, Fr.refl _ _⟩
  refine cD (fun h0 => cT rfl (no (by omega))) (fun h0 => cD (fun h1 => no (by omega)) (fun h1 => ?_))
  rw [S11_k1, IntWalk.i64_in (r + 1) (by omega)]
  refine (some_ok h (r + 1)).use ?_
  rintro v w' ⟨A, c, rfl, o1, f1⟩
  refine ⟨_, _, _, rfl, A, c, ?_⟩
  unfold robots
  rw [if_pos (by omega)]
  exact ⟨rfl, o1, f1⟩
theorem same_ok {w : World} {ok1 ok2 : Nat → Prop} {A1 A2 : Option Addr} {c1 c2 : Nat} {xs ys : List Int} (h1 : Rd w ok1 A1 (ints xs)) (h2 : Rd w ok2 A2 (ints ys)) (hm : xs.length ≤ maxLen) :
    Ret Try.prog 12 [.slice A1 xs.length c1, .slice A2 ys.length c2] w fun v w' => v = .bool (decide (xs = ys)) ∧ Fr none1 w w' := by
  apply S12_calls
  refine cN (fun hl => ?_) (fun hl => ?_)
  · refine ⟨?_, Fr.refl _ _⟩
    rw [decide_eq_false]
    intro e; subst e; exact hl rfl
  · have hl' : xs.length = ys.length := by omega
    refine ⟨fun s w' => ∃ n : Nat, s.1 = (n : Int) ∧ n ≤ xs.length ∧ xs.take n = ys.take n ∧ Fr none1 w w', fun s _ => xs.length - s.1.toNat, ⟨0, rfl, Nat.zero_le _, rfl, Fr.refl _ _⟩, ?_⟩
    rintro J ⟨i, ⟨⟩⟩ w1 ⟨n, hi, hn, ht, f1⟩
    dsimp only at hi ⊢
    subst hi
    simp only [maxLen] at hm
    refine cD (fun hlt => ?_) (fun hlt => ?_)
    · have f2 := f1.trans' (Fr.drew w1)
      have ex : xs[n]? = some xs[n] := List.getElem?_eq_getElem (by omega)
      have ey : ys[n]? = some (ys[n]'(by omega)) := List.getElem?_eq_getElem (by omega)
      obtain ⟨a1, rfl, _, q1⟩ := (h1.fr f2 fun _ _ _ h => h).at (ints_get ex)
      obtain ⟨a2, rfl, _, q2⟩ := (h2.fr f2 fun _ _ _ h => h).at (ints_get ey)
      refine ⟨_, rfl, by omega, by omega, _, by rw [Int.toNat_natCast, Nat.mul_one]; exact q1, _, rfl, by omega, by omega, _, by rw [Int.toNat_natCast, Nat.mul_one]; exact q2, ?_⟩
      refine cN (fun he => ?_) (fun he => ?_)
      · refine ⟨?_, f2⟩
        rw [decide_eq_false]
        intro e; subst e; exact he rfl
      · rw [IntWalk.i64_in ((n : Int) + 1) (by omega)]
        refine ⟨⟨n + 1, by simp, by omega, ?_, f2⟩, by dsimp only; omega⟩
        rw [List.take_add_one, List.take_add_one, ht, ex, ey, he]
    · have : n = xs.length := by omega
      subst this
      rw [List.take_length, hl', List.take_length] at ht
      exact ⟨by rw [decide_eq_true ht], f1⟩
theorem shown_ok (w : World) : Ret Try.prog 7 [] w fun v w' => v = .bool true ∧ Fr none1 w w' := by
  apply S7_calls
  refine (new_ok w).use ?_
  rintro v w1 ⟨t, rfl, ht, h1, f1⟩
  refine ⟨_, rfl, cF rfl ?_⟩
  refine (hold_ok h1 (by decide)).use ?_
  rintro v w2 ⟨rfl, h2, f2⟩
  refine ⟨_, rfl, ?_⟩
  refine (hold_ok h2 (by decide)).use ?_
  rintro v w3 ⟨rfl, h3, f3⟩
  refine ⟨_, rfl, ?_⟩
  refine (owner_ok h3 5).use ?_
  rintro v w3 ⟨rfl, rfl⟩
  refine ⟨_, _, rfl, ?_⟩
  refine (rel_ok h3 (by decide)).use ?_
  rintro v w4 ⟨rfl, h4, f4⟩
  refine ⟨_, rfl, ?_⟩
  refine (rel_ok h4 (by decide)).use ?_
  rintro v w5 ⟨rfl, h5, f5⟩
  refine ⟨_, rfl, ?_⟩
  refine cT rfl (cT rfl (cT rfl (cT rfl (cT rfl ⟨rfl, ?_⟩))))
  have g : ∀ {a b : World}, Fr (fun k => k = t) a b → Bel w.heap.size a b := fun f => f.bel fun k hk => hk ▸ ht
  exact (f1.bel0.trans' ((g f2).trans' ((g f3).trans' ((g f4).trans' (g f5))))).top
end Go.Proofs
