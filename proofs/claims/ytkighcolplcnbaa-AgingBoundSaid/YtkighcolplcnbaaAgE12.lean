/- Queues that age: who is dropped, all, a new one; nil. -/
import Derived.Test.YtkighcolplcnbaaAgD12
set_option linter.unusedVariables false
namespace Go.Proofs
open Go Go.Eng
def Done (W : World) (v : Value) (w : World) : Prop := v = .bool true ∧ Fr none1 W w
section
variable {w : World} {ok : Nat → Prop} {q : Nat} {Q : Que}
def isI (n : Int) (x : Wt) : Bool := decide (x.id = n)
theorem ixid_ok {ws : List Wt} {A : Option Addr} {c b : Nat} {n : Int} {ok2 : Nat → Prop} (hr : Rd w ok2 A (rws wcell ws)) (hl : ws.length ≤ 1000000) (hb : Blk w b 3 [.int .i64 n]) : Ret Try.prog 25 [.slice A ws.length c, .func (.func 26) ⟨[]⟩ ⟨[.pointer (some ⟨b, 0, none⟩)]⟩] w fun v w' => v = .int .i64 (idx (ws.findIdx? (isI n))) ∧ Fr none1 w w' := by
  apply S25_f26_calls
  refine ⟨fun s w' => ∃ i : Nat, s.1 = (i : Int) ∧ i ≤ ws.length ∧ (∀ (k : Nat) (y : Wt), k < i → ws[k]? = some y → isI n y = false) ∧ Fr none1 w w', fun s _ => ws.length - s.1.toNat, ⟨0, rfl, Nat.zero_le _, fun k y hk => absurd hk (Nat.not_lt_zero k), Fr.refl _ _⟩, ?_⟩
  rintro J ⟨i', ⟨⟩⟩ w1 ⟨i, hi, hil, hno, f1⟩
  dsimp only at hi ⊢
  subst hi
  refine cD (fun hlt => ?_) (fun hlt => ?_)
  · have hlt' : i < ws.length := by have : (i : Int) < (ws.length : Int) := hlt; omega
    have hx : ws[i]? = some ws[i] := List.getElem?_eq_getElem hlt'
    generalize ws[i] = x at hx
    obtain ⟨t, ht, _, c0, c1, c2⟩ := own_wt (hr.fr f1 fun _ _ _ h => h) hx
    refine ⟨t, ht, by omega, by omega, _, by rw [Int.toNat_natCast]; exact c0, _, by rw [Int.toNat_natCast]; exact c1, _, by rw [Int.toNat_natCast]; exact c2, ?_⟩
    have hcall : Ret Try.prog 26 [wval x, .pointer (some ⟨b, 0, none⟩)] w1 fun v w' => v = .bool (isI n x) ∧ Fr none1 w1 w' := by
      apply S26_calls
      have bx := Blk.new w1 40 (wcell x)
      have f0 : Fr none1 w1 (w1.alloc (.cells ⟨wcell x⟩ 40)) := Fr.alloc _ _
      have hb1 := (hb.fr f1 fun h => h).fr f0 fun h => h
      exact ⟨_, (bx.cell 0).trans rfl, _, (hb1.cell 0).trans rfl, rfl, f0⟩
    refine hcall.use ?_
    rintro v w2 ⟨rfl, f2⟩
    refine ⟨_, rfl, cB (fun hd => ?_) (fun hd => ?_)⟩
    · rw [fi_some hx hd hno]
      exact ⟨rfl, f1.trans' f2⟩
    · rw [IntWalk.i64_in _ (by omega)]
      refine ⟨⟨i + 1, rfl, by omega, fun k y hk hy => ?_, f1.trans' f2⟩, by dsimp only; omega⟩
      by_cases e : k = i
      · subst e; rw [hx] at hy; cases hy; exact hd
      · exact hno k y (by omega) hy
  · have hge : i = ws.length := by have : ¬ (i : Int) < (ws.length : Int) := hlt; omega
    rw [fi_none fun k y hy => hno k y (by rw [hge]; exact (List.getElem?_eq_some_iff.1 hy).1) hy]
    exact ⟨rfl, f1⟩
def drB (Q : Que) (n : Int) : Bool := (Q.ws.findIdx? (isI n)).isSome
def drQ (Q : Que) (n : Int) : Que := match Q.ws.findIdx? (isI n) with
  | some i => { Q with ws := Q.ws.eraseIdx i }
  | none => Q
theorem qdrop_ok (h : QAt w ok q Q) (n : Int) : Ret Try.prog 14 [.pointer (some ⟨q, 0, none⟩), .int .i64 n] w fun v w' => v = .bool (drB Q n) ∧ QAt w' ok q (drQ Q n) ∧ Fr ok w w' := by
  have h0 := h
  obtain ⟨hok, A, c, h1, h2, hQ⟩ := h
  obtain ⟨q1, q2, q3, q4, q5⟩ := hQ
  apply S14_calls
  have bi := Blk.new w 3 [.int .i64 n]
  have f0 : Fr none1 w (w.alloc (.cells ⟨[.int .i64 n]⟩ 3)) := Fr.alloc _ _
  unfold S14
  generalize w.alloc (.cells ⟨[.int .i64 n]⟩ 3) = w1 at bi f0 ⊢
  generalize w.heap.size = b at bi ⊢
  have k1 := h1.fr f0 fun h => h
  have o1 := h2.fr f0 fun _ _ _ h => h
  refine cF rfl ⟨_, rfl, A, _, c, (k1.cell 0).trans rfl, ?_⟩
  refine (ixid_ok (c := c) o1.rd (by omega) bi).use ?_
  rintro v w2 ⟨rfl, f2⟩
  have f02 := f0.trans' f2
  have f02' : Fr ok w w2 := f02.mono fun _ _ h => h.elim
  unfold drB drQ
  cases hf : Q.ws.findIdx? (isI n) with
  | none => exact ⟨_, rfl, cT rfl ⟨rfl, h0.fr0 f02, f02'⟩⟩
  | some i =>
    have hil : i < Q.ws.length := by
      rw [List.findIdx?_eq_some_iff_getElem] at hf
      exact hf.1
    have k2 := k1.fr f2 fun h => h
    have o2 := o1.fr f2 fun _ _ _ h => h
    refine ⟨_, rfl, cF (decide_eq_false (by show ¬ (i : Int) < 0; omega)) ⟨_, rfl, A, _, c, (k2.cell 0).trans rfl, ?_⟩⟩
    show Calls Try.prog 24 ⟨[.slice A Q.ws.length c, .int .i64 (i : Int), .int .i64 (IntKind.i64.wrap ((i : Int) + 1))]⟩ w2 _
    rw [IntWalk.i64_in ((i : Int) + 1) (by omega)]
    refine (wdelete_ok o2 (by omega) hil).use ?_
    rintro v w3 ⟨rfl, o3, f3⟩
    have k3 := k2.fr f3 fun ⟨a, ha, e⟩ => o2.ne_blk k2 (by decide) a ha e
    have fs := setQ w3 q 0 (.slice A (Q.ws.eraseIdx i).length c)
    refine ⟨_, _, _, rfl, _, rfl, k3.has 0 (by simp [qcs]), k3.free 0, rfl, ⟨hok, A, c, k3.set 0 _, o3.fr1 fs fun a ha e => o3.ne_blk k3 (by decide) a ha e, ?_⟩, f02'.trans' ((f3.mono fun k _ ⟨a, ha, e⟩ => e ▸ (o2.has a ha).1).trans' (fs.mono fun k _ e => by subst e; exact hok))⟩
    refine ⟨?_, q2, q3, fun x hx => q4 x (List.mem_of_mem_eraseIdx hx), q5⟩
    show (Q.ws.eraseIdx i).length ≤ 64
    have := List.length_eraseIdx_le Q.ws i
    omega
theorem wclone_ok {A : Option Addr} {c : Nat} {ws : List Wt} {ok2 : Nat → Prop} (hl : ws.length ≤ 1000) (h : Rd w ok2 A (rws wcell ws)) :
    Ret Try.prog 27 [.slice A ws.length c] w fun v w' => ∃ A' c', v = .slice A' ws.length c' ∧ Own w' 40 3 (from1 w.heap.size) A' ws.length c' (rws wcell ws) ∧ Fr none1 w w' := by
  apply S27_calls
  refine cB (fun hn => ?_) (fun hn => ?_)
  · cases A with
    | some a => cases hn
    | none =>
      rcases h with h | ⟨a, ha, _⟩
      · have h3 := rws_length wcell_len ws
        rw [h] at h3
        have : ws = [] := List.eq_nil_of_length_eq_zero (by simp at h3; omega)
        subst this
        exact ⟨none, 0, rfl, Own.nil _ _ _ _, Fr.refl _ _⟩
      · cases ha
  · have lit := Own.lit w 40 3 0 [] (by simp) (by simp)
    have f1 : Fr none1 w (w.alloc (.cells ⟨[]⟩ 40)) := Fr.alloc _ _
    obtain ⟨A', c', w', hr, ho, hf, _⟩ := run_append (ty := 37) (m := ws.length) (c2 := c) Ewt lit (by rw [rws_length wcell_len]) (h.fr f1 fun _ _ _ h => h) (rws_cells wcell_one _) (by omega) (by simp only [maxLen]; omega)
    rw [Nat.zero_add] at hr ho
    rw [List.nil_append] at ho
    have := f1.size
    exact ⟨A', _, c', w', hr, A', c', rfl, ho.mono fun k _ h => by rcases h with h | h <;> (simp only [from1]; omega), f1.trans hf fun k hk ⟨a, ha, e⟩ => by cases ha; simp only at e; omega⟩
theorem qall_ok (h : QAt w ok q Q) : Ret Try.prog 15 [.pointer (some ⟨q, 0, none⟩)] w fun v w' => ∃ A c, v = .slice A Q.ws.length c ∧ Own w' 40 3 (from1 w.heap.size) A Q.ws.length c (rws wcell Q.ws) ∧ Fr none1 w w' := by
  obtain ⟨hok, A, c, h1, h2, hQ⟩ := h
  apply S15_calls
  refine cF rfl ⟨_, rfl, A, _, c, (h1.cell 0).trans rfl, ?_⟩
  refine (wclone_ok (c := c) (by have := hQ.1; omega) h2.rd).use ?_
  rintro v w1 ⟨A1, c1, rfl, o1, f1⟩
  exact ⟨_, _, _, rfl, A1, c1, rfl, o1, f1⟩
theorem qnew_ok {n : Int} (hn : 0 ≤ n ∧ n ≤ 1000) (w : World) : Ret Try.prog 10 [.int .i64 n] w fun v w' => v = .tuple ⟨[.pointer (some ⟨w.heap.size, 0, none⟩), .int .i64 0]⟩ ∧ QAt w' (from1 w.heap.size) w.heap.size ⟨[], 0, n.toNat, 0⟩ ∧ Fr none1 w w' := by
  apply S10_calls
  refine cF (decide_eq_false (by omega)) (cF (decide_eq_false (by omega)) ⟨rfl, ⟨Nat.le_refl _, none, 0, ?_, Own.nil _ _ _ _, ?_⟩, Fr.alloc _ _⟩)
  · have := Blk.new w 52 [.slice none 0 0, .int .i64 0, .int .i64 n]
    have e : ((n.toNat : Nat) : Int) = n := by omega
    unfold qcs
    simp only [e]
    exact this
  · exact ⟨by simp, by simp, by simp only; omega, by simp, by simp⟩
theorem qnew_bad {n : Int} (hn : n < 0 ∨ 1000 < n) (w : World) : Ret Try.prog 10 [.int .i64 n] w fun v w' => v = .tuple ⟨[.pointer none, .int .i64 1]⟩ ∧ w' = w := by
  apply S10_calls
  refine cD (fun h => cT rfl ⟨rfl, rfl⟩) (fun h => cT (decide_eq_true (by omega)) ⟨rfl, rfl⟩)
end
end Go.Proofs
