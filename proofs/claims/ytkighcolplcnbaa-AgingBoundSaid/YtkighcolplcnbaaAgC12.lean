/- Queues that age: what waits, and contracts of the program. -/
import Derived.Test.YtkighcolplcnbaaS12
import Derived.Test.YtkighcolplcnbaaHp6
import Derived.Test.YtkighcolplcnbaaOpn
set_option linter.unusedVariables false
namespace Go.Proofs
open Go Go.Eng
structure Wt where
  id : Int
  pr : Int
  bp : Int
  deriving DecidableEq
def wcell (x : Wt) : List Value := [.int .i64 x.id, .int .i64 x.pr, .int .i64 x.bp]
theorem wcell_len (x : Wt) : (wcell x).length = 3 := rfl
def wval (x : Wt) : Value := .agg ⟨wcell x⟩
theorem Ewt : ElT Try.prog 37 40 3 24 := elT_of (by kernel_rfl)
/-- A queue: what waits, how many were added, the step. -/
structure Que where
  ws : List Wt
  n : Nat
  st : Nat
  b : Nat   -- how often one was bypassed at most
def WOk (b : Nat) (x : Wt) : Prop := 0 ≤ x.pr ∧ x.pr ≤ 5 ∧ 0 ≤ x.bp ∧ x.bp ≤ (b : Int)
def QOk (Q : Que) : Prop := Q.ws.length ≤ 64 ∧ Q.n ≤ 1000000 ∧ Q.st ≤ 1000 ∧ (∀ x ∈ Q.ws, WOk Q.b x) ∧ Q.b ≤ 1000000
def qcs (A : Option Addr) (c : Nat) (Q : Que) : List Value := [.slice A Q.ws.length c, .int .i64 (Q.n : Int), .int .i64 (Q.st : Int)]
def QAt (w : World) (ok : Nat → Prop) (q : Nat) (Q : Que) : Prop := ok q ∧ ∃ A c, Blk w q 52 (qcs A c Q) ∧ Own w 40 3 ok A Q.ws.length c (rws wcell Q.ws) ∧ QOk Q
theorem QAt.fr {F : Nat → Prop} {w w' : World} {ok : Nat → Prop} {q : Nat} {Q : Que} (h : QAt w ok q Q) (f : Fr F w w') (hd : ∀ k, k < w.heap.size → ok k → ¬ F k) : QAt w' ok q Q := by
  obtain ⟨h0, A, c, h1, h2, h3⟩ := h
  exact ⟨h0, A, c, h1.fr f (hd q h1.lt h0), h2.fr f hd, h3⟩
theorem QAt.fr0 {w w' : World} {ok : Nat → Prop} {q : Nat} {Q : Que} (h : QAt w ok q Q) (f : Fr none1 w w') : QAt w' ok q Q := h.fr f fun _ _ _ h => h
theorem own_wt {w : World} {ok : Nat → Prop} {A : Option Addr} {i : Nat} {ws : List Wt} {x : Wt} (h : Rd w ok A (rws wcell ws)) (hx : ws[i]? = some x) : ∃ t, A = some t ∧ ok t.block ∧ w.cell? (t.add (i * 3)) = some (.int .i64 x.id) ∧ w.cell? ((t.add (i * 3)).add 1) = some (.int .i64 x.pr) ∧ w.cell? ((t.add (i * 3)).add 2) = some (.int .i64 x.bp) := by
  have q : ∀ j (v : Value), j < 3 → (wcell x)[j]? = some v → ∃ t, A = some t ∧ ok t.block ∧ w.cell? ((t.add (i * 3)).add j) = some v := fun j v hj hv => by
    have e := rws_get wcell_len hx (j := j) hj
    obtain ⟨t, ht, hk, hc⟩ := h.at (e.trans hv)
    exact ⟨t, ht, hk, by rw [add_add]; exact hc⟩
  obtain ⟨t, ht, hk, c0⟩ := q 0 _ (by decide) rfl
  obtain ⟨t1, ht1, _, c1⟩ := q 1 _ (by decide) rfl
  obtain ⟨t2, ht2, _, c2⟩ := q 2 _ (by decide) rfl
  rw [ht] at ht1 ht2
  cases ht1; cases ht2
  rw [add_zero'] at c0
  exact ⟨t, ht, hk, c0, c1, c2⟩
def due (st : Nat) (x : Wt) : Bool := decide ((st : Int) * (5 - x.pr) ≤ x.bp)
def prI (ws : List Wt) (k : Nat) : Int := ((ws[k]?).map (·.pr)).getD 0
def bestN (ws : List Wt) (n : Nat) : Nat := (List.range n).foldl (fun b i => if prI ws b < prI ws i then i else b) 0
theorem bestN_succ (ws : List Wt) (n : Nat) : bestN ws (n + 1) = if prI ws (bestN ws n) < prI ws n then n else bestN ws n := by
  unfold bestN
  rw [List.range_succ, List.foldl_append]
  rfl
theorem bestN_le (ws : List Wt) : ∀ n, bestN ws n ≤ n - 1
  | 0 => Nat.le_refl _
  | n + 1 => by
    have := bestN_le ws n
    rw [bestN_succ]
    split <;> omega
def pl (Q : Que) : Int := if Q.ws = [] then -1 else match Q.ws.findIdx? (due Q.st) with
  | some i => (i : Int)
  | none => (bestN Q.ws Q.ws.length : Int)
section
variable {w : World} {ok : Nat → Prop} {q : Nat} {Q : Que}
theorem qlen_ok (h : QAt w ok q Q) : Ret Try.prog 16 [.pointer (some ⟨q, 0, none⟩)] w fun v w' => v = .int .i64 (Q.ws.length : Int) ∧ w' = w := by
  obtain ⟨_, A, c, h1, _⟩ := h
  apply S16_calls
  exact cF rfl ⟨_, rfl, A, _, c, (h1.cell 0).trans rfl, rfl, rfl⟩
theorem due_ok (h : QAt w ok q Q) {x : Wt} (hx : 0 ≤ x.pr ∧ x.pr ≤ 5) : Ret Try.prog 30 [.pointer (some ⟨q, 0, none⟩), wval x] w fun v w' => v = .bool (due Q.st x) ∧ Fr none1 w w' := by
  obtain ⟨_, A, c, h1, _, _, _, hst, _⟩ := h
  obtain ⟨p1, p2⟩ := hx
  apply S30_calls
  have bx := Blk.new w 40 (wcell x)
  have f0 : Fr none1 w (w.alloc (.cells ⟨wcell x⟩ 40)) := Fr.alloc _ _
  have fd : Fr none1 (w.alloc (.cells ⟨wcell x⟩ 40)) (w.alloc (.cells ⟨wcell x⟩ 40)).drew := Fr.drew _
  have b2 := bx.fr fd fun h => h
  have h2 := (h1.fr f0 fun h => h).fr fd fun h => h
  have f2 := f0.trans' fd
  have hm : (0 : Int) ≤ (Q.st : Int) * (5 - x.pr) ∧ (Q.st : Int) * (5 - x.pr) ≤ 5000 := by
    have h5 : (5 - x.pr) = 0 ∨ (5 - x.pr) = 1 ∨ (5 - x.pr) = 2 ∨ (5 - x.pr) = 3 ∨ (5 - x.pr) = 4 ∨ (5 - x.pr) = 5 := by omega
    rcases h5 with e | e | e | e | e | e <;> rw [e] <;> omega
  unfold S30
  generalize hw : (w.alloc (.cells ⟨[.int .i64 x.id, .int .i64 x.pr, .int .i64 x.bp]⟩ 40)).drew = w2
  have hw' : (w.alloc (.cells ⟨wcell x⟩ 40)).drew = w2 := hw
  rw [hw'] at b2 h2 f2
  refine ⟨_, rfl, _, (b2.cell 1).trans rfl, _, by rw [add_g]; exact (h2.cell 2).trans rfl, _, (b2.cell 2).trans rfl, ?_, f2⟩
  rw [IntWalk.i64_in (5 - x.pr) (by omega), IntWalk.i64_in _ (by omega)]
  rfl
theorem fi_some {p : Wt → Bool} {ws : List Wt} {i : Nat} {x : Wt} (h : ws[i]? = some x) (hp : p x = true) (hl : ∀ (k : Nat) (y : Wt), k < i → ws[k]? = some y → p y = false) : ws.findIdx? p = some i := by
  obtain ⟨hi, he⟩ := List.getElem?_eq_some_iff.1 h
  rw [List.findIdx?_eq_some_iff_getElem]
  refine ⟨hi, by rw [he]; exact hp, fun j hj => ?_⟩
  have := hl j _ hj (List.getElem?_eq_getElem (by omega))
  simp [this]
theorem fi_none {p : Wt → Bool} {ws : List Wt} (hl : ∀ (k : Nat) (y : Wt), ws[k]? = some y → p y = false) : ws.findIdx? p = none := by
  rw [List.findIdx?_eq_none_iff]
  intro x hx
  obtain ⟨k, hk, rfl⟩ := List.mem_iff_getElem.1 hx
  exact hl k _ (List.getElem?_eq_getElem hk)
def idx (o : Option Nat) : Int := match o with
  | some i => (i : Int)
  | none => -1
theorem ixdue_ok (h : QAt w ok q Q) {A : Option Addr} {c : Nat} {ok2 : Nat → Prop} (hr : Rd w ok2 A (rws wcell Q.ws)) : Ret Try.prog 25 [.slice A Q.ws.length c, .func (.func 30) ⟨[.pointer (some ⟨q, 0, none⟩)]⟩ ⟨[]⟩] w fun v w' => v = .int .i64 (idx (Q.ws.findIdx? (due Q.st))) ∧ Fr none1 w w' := by
  have hQ : QOk Q := by obtain ⟨_, _, _, _, _, h⟩ := h; exact h
  apply S25_f30_calls
  refine ⟨fun s w' => ∃ i : Nat, s.1 = (i : Int) ∧ i ≤ Q.ws.length ∧ (∀ k y, k < i → Q.ws[k]? = some y → due Q.st y = false) ∧ Fr none1 w w', fun s _ => Q.ws.length - s.1.toNat, ⟨0, rfl, Nat.zero_le _, fun k y hk => absurd hk (Nat.not_lt_zero k), Fr.refl _ _⟩, ?_⟩
  rintro J ⟨i', ⟨⟩⟩ w1 ⟨i, hi, hil, hno, f1⟩
  dsimp only at hi ⊢
  subst hi
  refine cD (fun hlt => ?_) (fun hlt => ?_)
  · have hlt' : i < Q.ws.length := by have : (i : Int) < (Q.ws.length : Int) := hlt; omega
    have hx : Q.ws[i]? = some Q.ws[i] := List.getElem?_eq_getElem hlt'
    have hok := hQ.2.2.2.1 _ (List.mem_of_getElem? hx)
    generalize Q.ws[i] = x at hx hok
    obtain ⟨t, ht, _, c0, c1, c2⟩ := own_wt (hr.fr f1 fun _ _ _ h => h) hx
    refine ⟨t, ht, by omega, by omega, _, by rw [Int.toNat_natCast]; exact c0, _, by rw [Int.toNat_natCast]; exact c1, _, by rw [Int.toNat_natCast]; exact c2, ?_⟩
    refine (due_ok (h.fr0 f1) ⟨hok.1, hok.2.1⟩).use ?_
    rintro v w2 ⟨rfl, f2⟩
    refine ⟨_, rfl, cB (fun hd => ?_) (fun hd => ?_)⟩
    · rw [fi_some hx hd hno]
      exact ⟨rfl, f1.trans' f2⟩
    · rw [IntWalk.i64_in _ (by have := hQ.1; omega)]
      refine ⟨⟨i + 1, rfl, by omega, fun k y hk hy => ?_, f1.trans' f2⟩, by dsimp only; omega⟩
      by_cases e : k = i
      · subst e; rw [hx] at hy; cases hy; exact hd
      · exact hno k y (by omega) hy
  · have hge : i = Q.ws.length := by have : ¬ (i : Int) < (Q.ws.length : Int) := hlt; omega
    rw [fi_none fun k y hy => hno k y (by rw [hge]; exact (List.getElem?_eq_some_iff.1 hy).1) hy]
    exact ⟨rfl, f1⟩
theorem prI_at {ws : List Wt} {i : Nat} {x : Wt} (h : ws[i]? = some x) : prI ws i = x.pr := by unfold prI; rw [h]; rfl
theorem place_ok (h : QAt w ok q Q) : Ret Try.prog 23 [.pointer (some ⟨q, 0, none⟩)] w fun v w' => v = .int .i64 (pl Q) ∧ Fr none1 w w' := by
  have h0 := h
  obtain ⟨hok, A, c, h1, h2, hQ⟩ := h
  apply S23_calls
  refine (qlen_ok h0).use ?_
  rintro v w ⟨rfl, rfl⟩
  refine ⟨_, rfl, cD (fun hz => ?_) (fun hz => ?_)⟩
  · have : Q.ws = [] := List.eq_nil_of_length_eq_zero (by omega)
    unfold pl
    rw [if_pos this]
    exact ⟨rfl, Fr.refl _ _⟩
  · have hne : Q.ws ≠ [] := fun e => hz (by rw [e]; rfl)
    have hpos : 0 < Q.ws.length := by
      rcases Nat.eq_zero_or_pos Q.ws.length with e | e
      · exact absurd (List.eq_nil_of_length_eq_zero e) hne
      · exact e
    refine ⟨_, rfl, A, _, c, (h1.cell 0).trans rfl, ?_⟩
    refine (ixdue_ok h0 (c := c) h2.rd).use ?_
    rintro v w1 ⟨rfl, f1⟩
    unfold pl
    rw [if_neg hne]
    cases hf : Q.ws.findIdx? (due Q.st) with
    | some i =>
      exact ⟨_, rfl, cT (decide_eq_true (by show (0 : Int) ≤ (i : Int); omega)) ⟨rfl, f1⟩⟩
    | none =>
      refine ⟨_, rfl, cF (by decide) ?_⟩
      have j1 := h1.fr f1 fun h => h
      refine ⟨_, rfl, A, _, c, (j1.cell 0).trans rfl, ?_⟩
      refine ⟨fun s w' => ∃ i : Nat, s.2.1 = (i : Int) ∧ i ≤ Q.ws.length ∧ s.1 = (bestN Q.ws i : Int) ∧ Fr none1 w w', fun s _ => Q.ws.length - s.2.1.toNat, ⟨0, rfl, Nat.zero_le _, rfl, f1⟩, ?_⟩
      rintro J ⟨b', i', ⟨⟩⟩ w2 ⟨i, hi, hil, hb, f2⟩
      dsimp only at hi hb ⊢
      subst hi hb
      refine cD (fun hlt => ?_) (fun hlt => ?_)
      · have hlt' : i < Q.ws.length := by have : (i : Int) < (Q.ws.length : Int) := hlt; omega
        have hx : Q.ws[i]? = some Q.ws[i] := List.getElem?_eq_getElem hlt'
        have hbl := bestN_le Q.ws i
        have hbx : Q.ws[bestN Q.ws i]? = some Q.ws[bestN Q.ws i] := List.getElem?_eq_getElem (by omega)
        have ei := prI_at hx
        have eb := prI_at hbx
        have o2 := h2.fr f2 fun _ _ _ h => h
        have k2 := h1.fr f2 fun h => h
        obtain ⟨t, ht, _, c0, c1, c2⟩ := own_wt o2.rd hx
        refine ⟨t, ht, by omega, by omega, _, by rw [Int.toNat_natCast]; exact c0, _, by rw [Int.toNat_natCast]; exact c1, _, by rw [Int.toNat_natCast]; exact c2, ?_⟩
        obtain ⟨p1, p2, p3, p4, p5, p6, b3, f3⟩ := cp3 w2 40 (.int .i64 0) (.int .i64 0) (.int .i64 0) (.int .i64 Q.ws[i].id) (.int .i64 Q.ws[i].pr) (.int .i64 Q.ws[i].bp)
        refine ⟨p1, p2, p3, p4, p5, p6, ?_⟩
        generalize World.setCell _ _ _ = w3 at b3 f3 ⊢
        have fd : Fr none1 w3 w3.drew := Fr.drew w3
        have b4 := b3.fr fd fun h => h
        have f4 := f3.trans' fd
        have o4 := o2.fr f4 fun _ _ _ h => h
        have k4 := k2.fr f4 fun h => h
        obtain ⟨t', ht', _, _, c1', _⟩ := own_wt o4.rd hbx
        refine ⟨_, rfl, A, _, c, (k4.cell 0).trans rfl, t', ht', by omega, by omega, _, (b4.cell 1).trans rfl, _, by rw [Int.toNat_natCast]; exact c1', ?_⟩
        rw [← ei, ← eb]
        have hs := bestN_succ Q.ws i
        refine cD (fun hc => ?_) (fun hc => ?_)
        · rw [if_pos hc] at hs
          rw [IntWalk.i64_in _ (by have := hQ.1; omega)]
          exact ⟨⟨i + 1, rfl, by omega, by rw [hs], f2.trans' f4⟩, by dsimp only; omega⟩
        · rw [if_neg hc] at hs
          rw [IntWalk.i64_in _ (by have := hQ.1; omega)]
          exact ⟨⟨i + 1, rfl, by omega, by rw [hs], f2.trans' f4⟩, by dsimp only; omega⟩
      · have hge : i = Q.ws.length := by have : ¬ (i : Int) < (Q.ws.length : Int) := hlt; omega
        subst hge
        exact ⟨rfl, f2⟩
theorem pl_lt (Q : Que) : pl Q < Q.ws.length ∧ (pl Q = -1 ↔ Q.ws = []) ∧ -1 ≤ pl Q := by
  unfold pl
  by_cases h : Q.ws = []
  · rw [if_pos h, h]; simp
  · rw [if_neg h]
    have hpos : 0 < Q.ws.length := by
      rcases Nat.eq_zero_or_pos Q.ws.length with e | e
      · exact absurd (List.eq_nil_of_length_eq_zero e) h
      · exact e
    cases hf : Q.ws.findIdx? (due Q.st) with
    | some i =>
      rw [List.findIdx?_eq_some_iff_getElem] at hf
      obtain ⟨hi, _⟩ := hf
      simp only
      refine ⟨by omega, ⟨fun e => by omega, fun e => absurd e h⟩, by omega⟩
    | none =>
      have := bestN_le Q.ws Q.ws.length
      simp only
      refine ⟨by omega, ⟨fun e => by omega, fun e => absurd e h⟩, by omega⟩
def nxI (Q : Que) : Int := ((Q.ws[(pl Q).toNat]?).map (·.id)).getD 0
def nxB (Q : Que) : Bool := decide (0 ≤ pl Q)
theorem next_ok (h : QAt w ok q Q) : Ret Try.prog 21 [.pointer (some ⟨q, 0, none⟩)] w fun v w' => v = .tuple ⟨[.int .i64 (if nxB Q then nxI Q else 0), .bool (nxB Q)]⟩ ∧ Fr none1 w w' := by
  have h0 := h
  obtain ⟨hok, A, c, h1, h2, hQ⟩ := h
  apply S21_calls
  refine (place_ok h0).use ?_
  rintro v w1 ⟨rfl, f1⟩
  obtain ⟨l1, l2, l3⟩ := pl_lt Q
  refine ⟨_, rfl, cD (fun hn => ?_) (fun hn => ?_)⟩
  · have e : nxB Q = false := decide_eq_false (by omega)
    rw [e]; exact ⟨rfl, f1⟩
  · have e : nxB Q = true := decide_eq_true (by omega)
    obtain ⟨m, hm⟩ := Int.eq_ofNat_of_zero_le (by omega : 0 ≤ pl Q)
    have hx : Q.ws[m]? = some Q.ws[m] := List.getElem?_eq_getElem (by omega)
    have ex : nxI Q = Q.ws[m].id := by unfold nxI; rw [hm, Int.toNat_natCast, hx]; rfl
    rw [e, ex, hm]
    have o1 := h2.fr f1 fun _ _ _ h => h
    have k1 := h1.fr f1 fun h => h
    obtain ⟨t, ht, _, c0, _, _⟩ := own_wt o1.rd hx
    exact ⟨_, rfl, A, _, c, (k1.cell 0).trans rfl, t, ht, by omega, by omega, _, by rw [Int.toNat_natCast]; exact c0, rfl, f1⟩
end
end Go.Proofs
