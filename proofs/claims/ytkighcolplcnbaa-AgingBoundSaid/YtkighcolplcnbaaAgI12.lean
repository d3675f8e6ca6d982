/- Queues that age: numbers rise; who is dropped. -/
import Derived.Test.YtkighcolplcnbaaAgH12
set_option linter.unusedVariables false
namespace Go.Proofs
open Go Go.Eng
/-- The numbers rise strictly, and are all given out. -/
def Rise (Q : Que) : Prop := Q.ws.Pairwise (fun x y => x.id < y.id) ∧ ∀ x ∈ Q.ws, 0 ≤ x.id ∧ x.id < (Q.n : Int)
theorem rise_add {Q : Que} (h : Rise Q) (p : Int) : Rise (adQ Q p) := by
  unfold adQ
  split
  · refine ⟨List.pairwise_append.2 ⟨h.1, List.pairwise_singleton _ _, fun x hx y hy => ?_⟩, fun x hx => ?_⟩
    · rw [List.mem_singleton] at hy; subst hy; exact (h.2 x hx).2
    · show 0 ≤ x.id ∧ x.id < ((Q.n + 1 : Nat) : Int)
      rcases List.mem_append.1 hx with hx | hx
      · have := h.2 x hx; omega
      · rw [List.mem_singleton] at hx; subst hx; exact ⟨by simp, by simp only; omega⟩
  · exact h
theorem bump_ids (ws : List Wt) (m : Nat) : (bump ws m).map (·.id) = ws.map (·.id) := by
  unfold bump
  rw [List.map_append, List.map_map]
  have e : ((fun x : Wt => x.id) ∘ up1) = fun x => x.id := rfl
  rw [e, ← List.map_append, List.take_append_drop]
theorem pair_ids {ws vs : List Wt} (h : ws.Pairwise (fun x y => x.id < y.id)) (e : vs.map (·.id) = ws.map (·.id)) : vs.Pairwise (fun x y => x.id < y.id) := by
  have h1 : (ws.map (·.id)).Pairwise (· < ·) := List.pairwise_map.2 h
  rw [← e] at h1
  exact List.pairwise_map.1 h1
theorem mem_ids {ws vs : List Wt} {n : Int} (h : ∀ x ∈ ws, 0 ≤ x.id ∧ x.id < n) (e : vs.map (·.id) = ws.map (·.id)) : ∀ x ∈ vs, 0 ≤ x.id ∧ x.id < n := by
  intro x hx
  have : x.id ∈ vs.map (·.id) := List.mem_map.2 ⟨x, hx, rfl⟩
  rw [e] at this
  obtain ⟨y, hy, he⟩ := List.mem_map.1 this
  rw [← he]; exact h y hy
theorem rise_take {Q : Que} (h : Rise Q) : Rise (tkQ Q) := by
  unfold tkQ
  split
  · exact ⟨(pair_ids h.1 (bump_ids _ _)).sublist (List.eraseIdx_sublist _ _), fun x hx => mem_ids h.2 (bump_ids Q.ws (pl Q).toNat) x (List.mem_of_mem_eraseIdx hx)⟩
  · exact h
theorem rise_drop {Q : Que} (h : Rise Q) (n : Int) : Rise (drQ Q n) := by
  unfold drQ
  split
  · exact ⟨h.1.sublist (List.eraseIdx_sublist _ _), fun x hx => h.2 x (List.mem_of_mem_eraseIdx hx)⟩
  · exact h
theorem rise_do {Q : Que} (h : Rise Q) (x : Act) : Rise (doQ Q x) := by
  unfold doQ
  split
  · exact rise_add h _
  · split
    · exact rise_take h
    · exact rise_drop h _
/-- All but one number. -/
def but (n : Int) (ws : List Wt) : List Wt := ws.filter fun x => !isI n x
theorem erase_but {n : Int} : ∀ {ws : List Wt} {i : Nat}, ws.Pairwise (fun x y => x.id < y.id) → ws.findIdx? (isI n) = some i → ws.eraseIdx i = but n ws
  | [], i, _, h => by simp at h
  | x :: ws, i, hp, h => by
    rw [List.findIdx?_cons] at h
    unfold but
    rw [List.filter_cons]
    cases hx : isI n x with
    | true =>
      rw [hx] at h
      simp at h
      subst h
      simp only [Bool.not_true, Bool.false_eq_true, if_false, List.eraseIdx_cons_zero]
      symm
      rw [List.filter_eq_self]
      intro y hy
      have h1 := (List.pairwise_cons.1 hp).1 y hy
      have h2 : x.id = n := of_decide_eq_true hx
      have h3 : isI n y = false := decide_eq_false (by omega)
      rw [h3]; rfl
    | false =>
      rw [hx] at h
      simp at h
      obtain ⟨k, hk, rfl⟩ := h
      have ih := erase_but (List.pairwise_cons.1 hp).2 hk
      unfold but at ih
      simp only [Bool.not_false, if_true, List.eraseIdx_cons_succ, ih]
theorem none_but {n : Int} {ws : List Wt} (h : ws.findIdx? (isI n) = none) : but n ws = ws := by
  rw [List.findIdx?_eq_none_iff] at h
  unfold but
  rw [List.filter_eq_self]
  intro x hx
  rw [h x hx]; rfl
theorem drQ_but {Q : Que} (h : Rise Q) (n : Int) : (drQ Q n).ws = but n Q.ws ∧ drB Q n = Q.ws.any (isI n) ∧ drB (drQ Q n) n = false := by
  have hb : ∀ ws : List Wt, (but n ws).findIdx? (isI n) = none := fun ws => by
    rw [List.findIdx?_eq_none_iff]
    intro x hx
    unfold but at hx
    have := (List.mem_filter.1 hx).2
    cases e : isI n x with
    | false => rfl
    | true => rw [e] at this; cases this
  have h1 : (drQ Q n).ws = but n Q.ws := by
    unfold drQ
    cases hf : Q.ws.findIdx? (isI n) with
    | some i => exact erase_but h.1 hf
    | none => exact (none_but hf).symm
  refine ⟨h1, ?_, ?_⟩
  · unfold drB
    cases hf : Q.ws.findIdx? (isI n) with
    | some i =>
      rw [List.findIdx?_eq_some_iff_getElem] at hf
      obtain ⟨hi, hp, _⟩ := hf
      symm
      show Q.ws.any (isI n) = true
      rw [List.any_eq_true]
      exact ⟨_, List.getElem_mem hi, hp⟩
    | none =>
      rw [List.findIdx?_eq_none_iff] at hf
      symm
      show Q.ws.any (isI n) = false
      rw [List.any_eq_false]
      intro x hx
      rw [hf x hx]; decide
  · unfold drB
    rw [h1, hb]; rfl
section
variable {W : World} {A : Option Addr} {c : Nat} {al : List Act}
theorem QK.act0 {K : Nat → Prop} {B : Nat} {w : World} {q : Nat} {Q : Que} (hn : Q.n ≤ 300) (hb : Q.b ≤ 300) : Q.n < 1000000 ∧ Q.b < 1000000 := by omega
theorem agingDrops_ok (h : RowAt W.heap.size 2 (ActQ W) A al) (hc : al.length ≤ c) (hm : c ≤ 9223372036854775807) {st : Int} (hst : 0 ≤ st ∧ st < 256) (id : Int) : Ret Try.prog 6 [.int .u8 st, .slice A al.length c, .int .i64 id] W (Done W) := by
  apply S6_calls
  refine (shown_ok W).use ?_
  rintro v w1 ⟨rfl, f1⟩
  have t0 : 0 ≤ Int.tmod st 21 := Int.tmod_nonneg _ hst.1
  have t1 : Int.tmod st 21 < 21 := Int.tmod_lt_of_pos _ (by decide)
  refine ⟨_, rfl, by decide, ?_⟩
  rw [IntWalk.i64_in _ (by omega)]
  generalize Int.tmod st 21 = n at t0 t1
  refine (QK.new (K := fun _ => False) (B := W.heap.size) (n := n) (by omega) f1.size (fun _ h => h.elim)).use ?_
  rintro v w2 ⟨q, rfl, h2, f2, hq⟩
  refine ⟨_, _, rfl, cF rfl (cF rfl ?_)⟩
  have g2 : Bel W.heap.size W w2 := f1.bel0.trans' f2.bel0
  refine (few_ok hc hm).use ?_
  rintro v w2 ⟨rfl, rfl⟩
  have hrow := RowAt.take h 300
  have h300 := List.length_take_le 300 al
  generalize al.take 300 = bl at hrow h300
  refine ⟨_, _, _, rfl, ?_⟩
  refine ⟨fun s w' => ∃ (i : Nat) (Q : Que), s.1 = (i : Int) ∧ i ≤ bl.length ∧ QK (fun _ => False) W.heap.size w' q Q ∧ Q.n ≤ i ∧ Q.b ≤ i ∧ Rise Q ∧ Bel W.heap.size W w', fun s _ => bl.length - s.1.toNat, ⟨0, _, rfl, Nat.zero_le _, h2, Nat.le_refl _, Nat.le_refl _, ⟨List.Pairwise.nil, by simp⟩, g2⟩, ?_⟩
  rintro J ⟨i', ⟨⟩⟩ w3 ⟨i, Q, hi, hil, h3, hn, hb, hR, g3⟩
  dsimp only at hi ⊢
  subst hi
  refine cD (fun hlt => ?_) (fun hlt => ?_)
  · have hlt' : i < bl.length := by have : (i : Int) < (bl.length : Int) := hlt; omega
    have hx : bl[i]? = some bl[i] := List.getElem?_eq_getElem hlt'
    generalize bl[i] = x at hx
    obtain ⟨a, ha, c0, c1, x0, x1⟩ := act_at hrow g3 (Nat.le_refl _) hx
    refine ⟨a, ha, by omega, by omega, _, by rw [Int.toNat_natCast]; exact c0, _, by rw [Int.toNat_natCast]; exact c1, ?_⟩
    obtain ⟨p1, p2, p3, p4, b4, f4⟩ := cp2 w3 31 (.int .u8 0) (.int .i64 0) (.int .u8 x.1) (.int .i64 x.2)
    refine ⟨p1, p2, p3, p4, ?_⟩
    generalize World.setCell _ _ _ = w4 at b4 f4 ⊢
    have h4 := h3.fr0 f4
    have g4 := g3.trans' f4.bel0
    have hdn := doQ_n Q x
    have hRd := rise_do hR x
    have nextI : IntKind.i64.wrap ((i : Int) + 1) = ((i + 1 : Nat) : Int) := by rw [IntWalk.i64_in _ (by omega)]; rfl
    rw [nextI]
    refine ⟨x.1, (b4.cell 0).trans rfl, by decide, cD (fun k0 => ?_) (fun k0 => cD (fun k1 => ?_) (fun k1 => ?_))⟩
    · have e : doQ Q x = adQ Q x.2 := if_pos k0
      rw [e] at hdn hRd
      refine ⟨_, (b4.cell 1).trans rfl, ?_⟩
      refine (h4.add x.2 (by omega)).use ?_
      rintro v w5 ⟨rfl, h5, f5⟩
      exact ⟨_, _, rfl, ⟨i + 1, _, rfl, by omega, h5, by omega, by omega, hRd, g4.trans' (offK_bel f5)⟩, by dsimp only; omega⟩
    · have e : doQ Q x = tkQ Q := by unfold doQ; rw [if_neg (show ¬ kd x = 0 from k0), if_pos (show kd x = 1 from k1)]
      rw [e] at hdn hRd
      refine (h4.take (by omega)).use ?_
      rintro v w5 ⟨rfl, h5, f5⟩
      exact ⟨_, _, rfl, ⟨i + 1, _, rfl, by omega, h5, by omega, by omega, hRd, g4.trans' (offK_bel f5)⟩, by dsimp only; omega⟩
    · have e : doQ Q x = drQ Q x.2 := by unfold doQ; rw [if_neg (show ¬ kd x = 0 from k0), if_neg (show ¬ kd x = 1 from k1)]
      rw [e] at hdn hRd
      refine ⟨_, (b4.cell 1).trans rfl, ?_⟩
      refine (h4.drop x.2).use ?_
      rintro v w5 ⟨rfl, h5, f5⟩
      exact ⟨_, rfl, ⟨i + 1, _, rfl, by omega, h5, by omega, by omega, hRd, g4.trans' (offK_bel f5)⟩, by dsimp only; omega⟩
  · obtain ⟨e1, e2, e3⟩ := drQ_but hR id
    have hlen := h3.1.qok.1
    refine (qall_ok h3.1).use ?_
    rintro v w4 ⟨A4, c4, rfl, o4, f4⟩
    refine ⟨_, _, _, rfl, ?_⟩
    have h4 := h3.fr0 f4
    have g4 := g3.trans' f4.bel0
    have r4 := (o4.mono (ok' := fun k => k < w4.heap.size) fun k hk _ => hk).rd
    refine ⟨fun s w' => ∃ i : Nat, s.2.2.1 = (i : Int) ∧ i ≤ Q.ws.length ∧ s.1.2.1 = (but id (Q.ws.take i)).length ∧ s.2.1 = (Q.ws.take i).any (isI id) ∧ Own w' 40 3 (fun k => w4.heap.size ≤ k) s.1.1 (but id (Q.ws.take i)).length s.1.2.2 (rws wcell (but id (Q.ws.take i))) ∧ Fr none1 w4 w', fun s _ => Q.ws.length - s.2.2.1.toNat, ⟨0, rfl, Nat.zero_le _, rfl, rfl, Own.nil _ _ _ _, Fr.refl _ _⟩, ?_⟩
    rintro J2 ⟨⟨A5, l5, c5⟩, fd, k', ⟨⟩⟩ w5 ⟨k, hk, hkl, hl5, hfd, o5, f5⟩
    dsimp only at hk hl5 hfd o5 ⊢
    subst hk hl5 hfd
    refine cD (fun hlt2 => ?_) (fun hlt2 => ?_)
    · have hlt2' : k < Q.ws.length := by have : (k : Int) < (Q.ws.length : Int) := hlt2; omega
      have hx : Q.ws[k]? = some Q.ws[k] := List.getElem?_eq_getElem hlt2'
      have hst2 : Q.ws.take (k + 1) = Q.ws.take k ++ [Q.ws[k]] := by rw [List.take_add_one, hx]; rfl
      generalize Q.ws[k] = x at hx hst2
      obtain ⟨t, ht, _, d0, d1, d2⟩ := own_wt (r4.fr f5 fun _ _ _ h => h) hx
      refine ⟨t, ht, by omega, by omega, _, by rw [Int.toNat_natCast]; exact d0, _, by rw [Int.toNat_natCast]; exact d1, _, by rw [Int.toNat_natCast]; exact d2, ?_⟩
      obtain ⟨p1, p2, p3, p4, p5, p6, b6, f6⟩ := cp3 w5 40 (.int .i64 0) (.int .i64 0) (.int .i64 0) (.int .i64 x.id) (.int .i64 x.pr) (.int .i64 x.bp)
      refine ⟨p1, p2, p3, p4, p5, p6, ?_⟩
      generalize World.setCell _ _ _ = w6 at b6 f6 ⊢
      have o6 := o5.fr f6 fun _ _ _ h => h
      have f46 := f5.trans' f6
      have nextK : IntKind.i64.wrap ((k : Int) + 1) = ((k + 1 : Nat) : Int) := by rw [IntWalk.i64_in _ (by omega)]; rfl
      rw [nextK]
      refine ⟨_, (b6.cell 0).trans rfl, cD (fun he => ?_) (fun he => ?_)⟩
      · have hi2 : isI id x = true := decide_eq_true he
        have eb : but id (Q.ws.take (k + 1)) = but id (Q.ws.take k) := by rw [hst2]; unfold but; rw [List.filter_append]; simp [hi2]
        have ea : (Q.ws.take (k + 1)).any (isI id) = true := by rw [hst2, List.any_append]; simp [hi2]
        exact ⟨⟨k + 1, rfl, by omega, by rw [eb], by rw [ea], by rw [eb]; exact o6, f46⟩, by dsimp only; omega⟩
      · have hi2 : isI id x = false := decide_eq_false he
        have eb : but id (Q.ws.take (k + 1)) = but id (Q.ws.take k) ++ [x] := by rw [hst2]; unfold but; rw [List.filter_append]; simp [hi2]
        have ea : (Q.ws.take (k + 1)).any (isI id) = (Q.ws.take k).any (isI id) := by rw [hst2, List.any_append]; simp [hi2]
        have hbl : (but id (Q.ws.take k)).length ≤ 64 := by
          have h1 := List.length_filter_le (fun x => !isI id x) (Q.ws.take k)
          rw [List.length_take] at h1
          unfold but; omega
        have fl : Fr none1 w6 (w6.alloc (.cells ⟨wcell x⟩ 40)) := Fr.alloc _ _
        have lit := Own.lit w6 40 3 1 (wcell x) rfl (by simp [maxLen])
        obtain ⟨A7, c7, w7, r7, o7, f7, _⟩ := run_append (ty := 37) (m := 1) (c2 := 1) Ewt (o6.fr fl fun _ _ _ h => h) rfl lit.rd (wcell_one _) (by omega) (by simp only [maxLen]; omega)
        have hs := f46.size
        have hsl := fl.size
        have f47 : Fr none1 w4 w7 := (f46.trans' fl).trans f7 fun k hk ⟨a, ha, e⟩ => by have := ((o6.fr fl fun _ _ _ h => h).has a ha).1; omega
        refine ⟨_, (b6.cell 0).trans rfl, _, (b6.cell 1).trans rfl, _, (b6.cell 2).trans rfl, A7, _, c7, w7, r7, ⟨k + 1, rfl, by omega, by rw [eb]; simp, by rw [ea], ?_, f47⟩, by dsimp only; omega⟩
        rw [eb, List.length_append, rws_append, rws_one]
        exact o7.mono fun k _ h => by rcases h with h | h <;> omega
    · have hge : k = Q.ws.length := by have : ¬ (k : Int) < (Q.ws.length : Int) := hlt2; omega
      subst hge
      rw [List.take_length] at *
      have h5 := h4.grow f5 fun _ _ h => h.elim
      have g5 := g4.trans' f5.bel0
      refine cT rfl ?_
      refine (h5.drop id).use ?_
      rintro v w6 ⟨rfl, h6, f6⟩
      have o6 := (o5.mono (ok' := fun k => w4.heap.size ≤ k ∧ k < w5.heap.size) fun k hk h => ⟨h, hk⟩).fr f6 fun k _ hk ho => ho.2 (.inr hk)
      refine ⟨_, rfl, cT (by rw [e2]; simp) ?_⟩
      refine (qall_ok h6.1).use ?_
      rintro v w7 ⟨A7, c7, rfl, o7, f7⟩
      refine ⟨_, _, _, rfl, ?_⟩
      have hl6 := h6.1.qok.1
      refine (wsame_ok (c1 := c7) (c2 := c5) o7.rd (o6.fr f7 fun _ _ _ h => h).rd (by omega)).use ?_
      rintro v w8 ⟨rfl, f8⟩
      rw [e1, decide_eq_true rfl]
      refine ⟨_, rfl, cT rfl ?_⟩
      refine (((h6.fr0 f7).fr0 f8).drop id).use ?_
      rintro v w9 ⟨rfl, h9, f9⟩
      exact ⟨_, rfl, by rw [e3]; rfl, (g5.trans' ((offK_bel f6).trans' (f7.bel0.trans' (f8.bel0.trans' (offK_bel f9))))).top⟩
end
end Go.Proofs
