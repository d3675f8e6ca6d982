/- Queues that age: what changes them. -/
import Derived.Test.YtkighcolplcnbaaAgC12
import Derived.Test.YtkighcolplcnbaaHp8
set_option linter.unusedVariables false
namespace Go.Proofs
open Go Go.Eng
theorem wcell_one (x : Wt) : ∀ v ∈ wcell x, v.oneCell' = true := by
  intro u hu
  simp only [wcell, List.mem_cons, List.not_mem_nil, or_false] at hu
  rcases hu with rfl | rfl | rfl <;> rfl
theorem Zwt (w : World) : (zeroValue 40).run Try.prog w = .ok (.agg #[.int .i64 0, .int .i64 0, .int .i64 0]) w := by kernel_rfl
def qplus (ok : Nat → Prop) (w : World) : Nat → Prop := fun k => ok k ∨ w.heap.size ≤ k
/-- slices.Delete of one that waits. -/
theorem wdelete_ok {w : World} {ok : Nat → Prop} {A : Option Addr} {c : Nat} {ws : List Wt} (h : Own w 40 3 ok A ws.length c (rws wcell ws)) (hl : ws.length ≤ 1024) {n : Nat} (hn : n < ws.length) : Ret Try.prog 24 [.slice A ws.length c, .int .i64 (n : Int), .int .i64 ((n : Int) + 1)] w fun v w' =>
    v = .slice A (ws.eraseIdx n).length c ∧ Own w' 40 3 ok A (ws.eraseIdx n).length c (rws wcell (ws.eraseIdx n)) ∧ Fr (ownAt A) w w' := by
  have hlc := h.le
  apply S24_calls
  refine ⟨by omega, by omega, by omega, by simp; omega, by omega, by simp; omega, ?_⟩
  refine cD (fun e => by omega) (fun _ => ?_)
  refine ⟨by omega, by omega, by omega, by omega, ?_⟩
  have e1 : Int.toNat (n : Int) - 0 = n := by simp
  have e2 : Int.toNat ((n : Int) + 1) = n + 1 := by omega
  have e3 : Int.toNat (ws.length : Int) = ws.length := by simp
  rw [e1, e2, slAddr_zero, Nat.sub_zero]
  have ht := (h.take (n := n) (by omega)).fr (Fr.drew (F := none1) w) fun _ _ _ h => h
  have hlen := h.1
  have hd : Rd w.drew ok (slAddr A c (n + 1) 3) ((rws wcell ws).drop ((n + 1) * 3)) := (h.rd.drop (m := c) (l := n + 1) (by rw [hlen]; omega)).fr (Fr.drew (F := none1) w) fun _ _ _ h => h
  rw [rws_drop wcell_len] at hd
  rw [rws_take wcell_len] at ht
  obtain ⟨A', c', w', hr, ho, hf, hroom⟩ := run_append (ty := 37) (m := ws.length - (n + 1)) (c2 := c - (n + 1)) Ewt ht (by rw [rws_length wcell_len, List.length_drop]) hd (rws_cells wcell_one _) (by omega) (by simp only [maxLen]; omega)
  obtain ⟨rfl, rfl⟩ := hroom (by omega)
  have hl1 : n + (ws.length - (n + 1)) = (ws.eraseIdx n).length := by rw [List.length_eraseIdx, if_pos hn]; omega
  rw [hl1, ← rws_eraseIdx] at ho
  rw [hl1] at hr
  have hle2 : (ws.eraseIdx n).length ≤ ws.length := by rw [List.length_eraseIdx, if_pos hn]; omega
  obtain ⟨w2, hr2, ho2, hf2⟩ := run_clearN (ty := 0) (n := ws.length) Ewt.ut Zwt rfl (by decide) (wcell_one ⟨0, 0, 0⟩) (ho.ok fun a ha => (h.has a ha).1) hle2 hlc
  have e4 : Int.toNat (((ws.eraseIdx n).length : Nat) : Int) = (ws.eraseIdx n).length := by simp
  refine ⟨A', _, c', w', hr, by omega, by omega, by omega, by omega, ?_⟩
  rw [e4, e3]
  exact ⟨w2, hr2, rfl, ho2, (Fr.drew w).trans' (hf.trans' hf2)⟩
section
variable {w : World} {ok : Nat → Prop} {q : Nat} {Q : Que}
def adE (Q : Que) (p : Int) : Int := if p < 0 ∨ 5 < p then 1 else if 64 ≤ Q.ws.length then 4 else 0
def adI (Q : Que) (p : Int) : Int := if adE Q p = 0 then Q.n else 0
def adQ (Q : Que) (p : Int) : Que := if adE Q p = 0 then { Q with ws := Q.ws ++ [⟨Q.n, p, 0⟩], n := Q.n + 1 } else Q
theorem setQ (w : World) (q j : Nat) (u : Value) : Fr (fun k => k = q) w (w.setCell ⟨q, j, none⟩ u) := Fr.setCell (F := fun k => k = q) w rfl u
theorem qadd_ok (h : QAt w ok q Q) (p : Int) (hn : Q.n < 1000000) : Ret Try.prog 12 [.pointer (some ⟨q, 0, none⟩), .int .i64 p] w fun v w' => v = .tuple ⟨[.int .i64 (adI Q p), .int .i64 (adE Q p)]⟩ ∧ QAt w' (qplus ok w) q (adQ Q p) ∧ Fr ok w w' := by
  have h0 := h
  obtain ⟨hok, A, c, h1, h2, hQ⟩ := h
  obtain ⟨q1, q2, q3, q4, q5⟩ := hQ
  apply S12_calls
  have bad : adE Q p = 1 → (Value.tuple ⟨[.int .i64 0, .int .i64 1]⟩ = .tuple ⟨[.int .i64 (adI Q p), .int .i64 (adE Q p)]⟩ ∧ QAt w (qplus ok w) q (adQ Q p) ∧ Fr ok w w) := by
    intro e
    unfold adI adQ
    rw [e]
    simp only [show ¬ (1 : Int) = 0 by decide, if_false]
    exact ⟨trivial, ⟨.inl h0.1, A, c, h1, h2.mono fun k _ h => .inl h, q1, q2, q3, q4, q5⟩, Fr.refl _ _⟩
  have k0 : ∀ b : Bool, (b = true ↔ 5 < p) → ¬ p < 0 → S12_k0 (some ⟨q, 0, none⟩) p b w (fun v w' => v = .tuple ⟨[.int .i64 (adI Q p), .int .i64 (adE Q p)]⟩ ∧ QAt w' (qplus ok w) q (adQ Q p) ∧ Fr ok w w') := by
    intro b hb hp
    refine cB (fun hc => bad (by unfold adE; rw [if_pos (.inr (hb.1 hc))])) (fun hc => ?_)
    have hp5 : ¬ 5 < p := fun e => by rw [hb.2 e] at hc; cases hc
    refine ⟨_, rfl, A, _, c, (h1.cell 0).trans rfl, cD (fun hl => ?_) (fun hl => ?_)⟩
    · have e : adE Q p = 4 := by unfold adE; rw [if_neg (by omega), if_pos (by omega)]
      unfold adI adQ
      rw [e]
      simp only [show ¬ (4 : Int) = 0 by decide, if_false]
      exact ⟨trivial, ⟨.inl h0.1, A, c, h1, h2.mono fun k _ h => .inl h, q1, q2, q3, q4, q5⟩, Fr.refl _ _⟩
    · have e : adE Q p = 0 := by unfold adE; rw [if_neg (by omega), if_neg (by omega)]
      unfold adI adQ
      rw [e]
      simp only [if_true]
      refine ⟨_, rfl, _, by rw [add_g]; exact (h1.cell 1).trans rfl, _, rfl, _, by rw [add_g]; exact (h1.cell 1).trans rfl, _, rfl, by rw [add_g]; exact h1.has 1 (by simp [qcs]), by rw [add_g]; exact h1.free 1, ?_⟩
      rw [add_g, IntWalk.i64_in ((Q.n : Int) + 1) (by omega)]
      have k1 := h1.set 1 (.int .i64 ((Q.n : Int) + 1))
      have f1 := setQ w q 1 (.int .i64 ((Q.n : Int) + 1))
      have o1 := h2.fr1 f1 fun a ha e => h2.ne_blk h1 (by decide) a ha e
      generalize w.setCell ⟨q, 1, none⟩ (.int .i64 ((Q.n : Int) + 1)) = w1 at k1 f1 o1 ⊢
      have fl : Fr none1 w1 (w1.alloc (.cells ⟨wcell ⟨Q.n, p, 0⟩⟩ 40)) := Fr.alloc _ _
      have lit := Own.lit w1 40 3 1 (wcell ⟨Q.n, p, 0⟩) rfl (by simp [maxLen])
      obtain ⟨A2, c2, w2, r2, o2, f2, _⟩ := run_append (ty := 37) (m := 1) (c2 := 1) Ewt (o1.fr fl fun _ _ _ h => h) rfl lit.rd (wcell_one _) (by omega) (by simp only [maxLen]; omega)
      have k2 := (k1.fr fl fun h => h).fr f2 fun ⟨a, ha, e⟩ => (o1.fr fl fun _ _ _ h => h).ne_blk (k1.fr fl fun h => h) (by decide) a ha e
      have f3 := setQ w2 q 0 (.slice A2 (Q.ws.length + 1) c2)
      refine ⟨_, rfl, A, _, c, (k1.cell 0).trans rfl, A2, _, c2, w2, r2, _, rfl, k2.has 0 (by simp [qcs]), k2.free 0, rfl, ⟨.inl h0.1, A2, c2, ?_, ?_, ?_⟩, ?_⟩
      · have := k2.set 0 (.slice A2 (Q.ws.length + 1) c2)
        unfold qcs at this ⊢
        simpa using this
      · have o3 := o2.fr1 f3 fun a ha e => o2.ne_blk k2 (by decide) a ha e
        rw [List.length_append, rws_append, rws_one]
        have hs1 := f1.size
        have hsl := fl.size
        exact o3.mono fun k _ h => h.imp id fun h => by omega
      · refine ⟨by simp; omega, by show Q.n + 1 ≤ 1000000; omega, q3, fun x hx => ?_, q5⟩
        rcases List.mem_append.1 hx with hx | hx
        · exact q4 x hx
        · rw [List.mem_singleton] at hx
          subst hx
          exact ⟨by show 0 ≤ p; omega, by show p ≤ 5; omega, by simp, by simp⟩
      · refine (f1.mono fun k _ e => by subst e; exact hok).trans' ((fl.mono fun _ _ h => h.elim).trans' ((f2.mono fun k _ ⟨a, ha, e⟩ => e ▸ ((o1.fr fl fun _ _ _ h => h).has a ha).1).trans' (f3.mono fun k _ e => by subst e; exact hok)))
  refine cF rfl (cD (fun hp => ?_) (fun hp => ?_))
  · exact cT rfl (bad (by unfold adE; rw [if_pos (.inl hp)]))
  · exact k0 _ decide_eq_true_iff hp
/-- Those ahead were bypassed once more. -/
def up1 (x : Wt) : Wt := { x with bp := x.bp + 1 }
def bump (ws : List Wt) (m : Nat) : List Wt := (ws.take m).map up1 ++ ws.drop m
theorem bump_len (ws : List Wt) (m : Nat) : (bump ws m).length = ws.length := by
  unfold bump
  rw [List.length_append, List.length_map, List.length_take, List.length_drop]; omega
theorem bump_at {ws : List Wt} {m : Nat} {x : Wt} (h : ws[m]? = some x) : (bump ws m)[m]? = some x := by
  have hm := (List.getElem?_eq_some_iff.1 h).1
  have hl : ((ws.take m).map up1).length = m := by rw [List.length_map, List.length_take]; omega
  unfold bump
  rw [List.getElem?_append_right (by omega), hl, Nat.sub_self, List.getElem?_drop, Nat.add_zero, h]
theorem bump_succ {ws : List Wt} {m : Nat} {x : Wt} (h : ws[m]? = some x) : bump ws (m + 1) = (bump ws m).set m (up1 x) := by
  have hm := (List.getElem?_eq_some_iff.1 h).1
  have hl : ((ws.take m).map up1).length = m := by rw [List.length_map, List.length_take]; omega
  have hd : ws.drop m = x :: ws.drop (m + 1) := by
    rw [List.drop_eq_getElem_cons hm, (List.getElem?_eq_some_iff.1 h).2]
  unfold bump
  rw [List.take_add_one, h, List.set_append_right _ _ (by omega), hl, Nat.sub_self, hd]
  simp
theorem bump_mem {ws : List Wt} {m : Nat} {b : Nat} (h : ∀ x ∈ ws, WOk b x) : ∀ x ∈ bump ws m, WOk (b + 1) x := by
  intro x hx
  unfold bump at hx
  rcases List.mem_append.1 hx with hx | hx
  · obtain ⟨y, hy, rfl⟩ := List.mem_map.1 hx
    obtain ⟨h1, h2, h3, h4⟩ := h y (List.mem_of_mem_take hy)
    exact ⟨h1, h2, by show 0 ≤ y.bp + 1; omega, by show y.bp + 1 ≤ _; omega⟩
  · obtain ⟨h1, h2, h3, h4⟩ := h x (List.mem_of_mem_drop hx)
    exact ⟨h1, h2, h3, by omega⟩
def tkQ (Q : Que) : Que := if nxB Q then { Q with ws := (bump Q.ws (pl Q).toNat).eraseIdx (pl Q).toNat, b := Q.b + 1 } else Q
theorem qtake_ok (h : QAt w ok q Q) (hb : Q.b < 1000000) : Ret Try.prog 13 [.pointer (some ⟨q, 0, none⟩)] w fun v w' => v = .tuple ⟨[.int .i64 (if nxB Q then nxI Q else 0), .bool (nxB Q)]⟩ ∧ QAt w' ok q (tkQ Q) ∧ Fr ok w w' := by
  have h0 := h
  obtain ⟨hok, A, c, h1, h2, hQ⟩ := h
  obtain ⟨q1, q2, q3, q4, q5⟩ := hQ
  apply S13_calls
  refine (place_ok h0).use ?_
  rintro v w1 ⟨rfl, f1⟩
  obtain ⟨l1, l2, l3⟩ := pl_lt Q
  have f1' : Fr ok w w1 := f1.mono fun _ _ h => h.elim
  refine ⟨_, rfl, cD (fun hn => ?_) (fun hn => ?_)⟩
  · have e : nxB Q = false := decide_eq_false (by omega)
    unfold tkQ
    rw [e]
    exact ⟨rfl, h0.fr0 f1, f1'⟩
  · have e : nxB Q = true := decide_eq_true (by omega)
    obtain ⟨m, hm⟩ := Int.eq_ofNat_of_zero_le (by omega : 0 ≤ pl Q)
    have hml : m < Q.ws.length := by omega
    have hx : Q.ws[m]? = some Q.ws[m] := List.getElem?_eq_getElem hml
    have ex : nxI Q = Q.ws[m].id := by unfold nxI; rw [hm, Int.toNat_natCast, hx]; rfl
    unfold tkQ
    rw [e, if_pos rfl, if_pos rfl, ex, hm, Int.toNat_natCast]
    have o1 := h2.fr f1 fun _ _ _ h => h
    have k1 := h1.fr f1 fun h => h
    obtain ⟨t, ht, _, c0, _, _⟩ := own_wt o1.rd hx
    refine ⟨_, rfl, A, _, c, (k1.cell 0).trans rfl, t, ht, by omega, by omega, _, by rw [Int.toNat_natCast]; exact c0, ?_⟩
    refine ⟨fun s w' => ∃ i : Nat, s.1 = (i : Int) ∧ i ≤ m ∧ Blk w' q 52 (qcs A c Q) ∧ Own w' 40 3 ok A Q.ws.length c (rws wcell (bump Q.ws i)) ∧ Fr ok w w', fun s _ => m - s.1.toNat, ⟨0, rfl, Nat.zero_le _, k1, by simpa [bump] using o1, f1'⟩, ?_⟩
    rintro J ⟨i', ⟨⟩⟩ w2 ⟨i, hi, him, k2, o2, f2⟩
    dsimp only at hi ⊢
    subst hi
    refine cD (fun hlt => ?_) (fun hlt => ?_)
    · have hlt' : i < m := by have : (i : Int) < (m : Int) := hlt; omega
      have hxi : Q.ws[i]? = some Q.ws[i] := List.getElem?_eq_getElem (by omega)
      have hwi := q4 _ (List.mem_of_getElem? hxi)
      generalize Q.ws[i] = x at hxi hwi
      have hbx := bump_at hxi
      obtain ⟨g, hA, hg, hcl⟩ := o2.elem wcell_len hbx (by decide)
      subst hA
      have hadd : ((⟨g, 0, none⟩ : Addr).add (i * 3)).add 2 = ⟨g, i * 3 + 2, none⟩ := by rw [add_add, add_g]
      have c2 := hcl 2 _ (by decide) rfl
      refine ⟨_, rfl, _, _, c, (k2.cell 0).trans rfl, ⟨g, 0, none⟩, rfl, by omega, by omega, x.bp, by rw [Int.toNat_natCast]; exact c2, _, rfl, by omega, by omega, ?_⟩
      rw [Int.toNat_natCast, hadd] at *
      rw [IntWalk.i64_in (x.bp + 1) (by have := hwi.2.2; omega), IntWalk.i64_in ((i : Int) + 1) (by omega)]
      have os := o2.set (i * 3 + 2) (.int .i64 (x.bp + 1))
      rw [← rws_upd wcell_len (a := x) (a' := up1 x) (j := 2) (v := .int .i64 (x.bp + 1)) (by decide) rfl _ _ hbx, ← bump_succ hxi] at os
      have fs : Fr (fun k => k = g) w2 (w2.setCell ⟨g, i * 3 + 2, none⟩ (.int .i64 (x.bp + 1))) := Fr.setCell (F := fun k => k = g) w2 rfl _
      have hgq : q ≠ g := fun e => o2.ne_blk k2 (by decide) _ rfl e.symm
      exact ⟨⟨_, c2⟩, o2.free _, ⟨i + 1, rfl, by omega, k2.fr fs hgq, os, f2.trans' (fs.mono fun k _ e => by subst e; exact hg)⟩, by dsimp only; omega⟩
    · have him' : i = m := by have : ¬ (i : Int) < (m : Int) := hlt; omega
      subst him'
      refine ⟨_, rfl, A, _, c, (k2.cell 0).trans rfl, ?_⟩
      rw [IntWalk.i64_in ((i : Int) + 1) (by omega)]
      have hbl := bump_len Q.ws i
      rw [← hbl] at o2
      have hdel := wdelete_ok o2 (by omega) (n := i) (by omega)
      rw [hbl] at hdel
      refine hdel.use ?_
      rintro v w3 ⟨rfl, o3, f3⟩
      have k3 := k2.fr f3 fun ⟨a, ha, e⟩ => o2.ne_blk k2 (by decide) a ha e
      have fs := setQ w3 q 0 (.slice A ((bump Q.ws i).eraseIdx i).length c)
      refine ⟨_, _, _, rfl, _, rfl, k3.has 0 (by simp [qcs]), k3.free 0, rfl, ⟨hok, A, c, k3.set 0 _, o3.fr1 fs fun a ha e => o3.ne_blk k3 (by decide) a ha e, ?_⟩, f2.trans' ((f3.mono fun k _ ⟨a, ha, e⟩ => e ▸ (o2.has a ha).1).trans' (fs.mono fun k _ e => by subst e; exact hok))⟩
      refine ⟨?_, q2, q3, fun x hx => bump_mem q4 x (List.mem_of_mem_eraseIdx hx), by show Q.b + 1 ≤ 1000000; omega⟩
      show ((bump Q.ws i).eraseIdx i).length ≤ 64
      have := List.length_eraseIdx_le (bump Q.ws i) i
      omega
end
end Go.Proofs
