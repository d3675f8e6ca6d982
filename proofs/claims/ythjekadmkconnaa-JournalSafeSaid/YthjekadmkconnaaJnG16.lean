/- Laws of journals: how long, safe, any. -/
import Derived.Test.YthjekadmkconnaaJnF16
import Derived.Test.YthjekadmkconnaaHp7
set_option linter.unusedVariables false
namespace Go.Proofs
open Go Go.Eng
theorem scan_frames {l : List Bs} (h : ∀ y ∈ l, y.length ≤ 1000) : scanB (frames l) = (l, (frames l).length) := by
  have := scanB_frames l [] h
  rw [List.append_nil, scanB_zero (xs := []) (by decide)] at this
  simpa using this
theorem frames_snoc (l : List Bs) (y : Bs) : frames (l ++ [y]) = frames l ++ framed y := by
  rw [frames_append]; simp [frames]
section
variable {K : Nat → Prop} {B : Nat} {w w' : World} {j d n : Nat} {D : Dsk}
theorem open0 (h : DkK K B w d ⟨[], 0, false, -1⟩) : Ret Try.prog 10 [.pointer (some ⟨d, 0, none⟩)] w fun v w' => ∃ (j : Nat) (A : Option Addr) (c : Nat), v = .tuple ⟨[.pointer (some ⟨j, 0, none⟩), .slice A 0 c, .int .i64 0]⟩ ∧ JnK K B w' j d ⟨[], 0, false, -1⟩ 0 ∧ Fr (offK K B) w w' := by
  have e0 : scanB ([] : Bs) = ([], 0) := scanB_zero (by decide)
  have eD : opD ⟨[], 0, false, -1⟩ = ⟨[], 0, false, -1⟩ := by unfold opD; rw [e0]; rfl
  refine (open_ok h ⟨rfl, rfl⟩ (by simp)).imp fun v w' ⟨j, hi, A, c, h1, _, h2, h3, _⟩ => ⟨j, A, c, ?_, ?_, h3⟩
  · rw [h1]; simp only [e0]; rfl
  · rw [eD] at h2
    simp only [e0] at h2
    exact h2.shrink fun _ h => .inl h
theorem note_live (h : JnK K B w j d D n) (hL : Live D) (hD : D.bs.length ≤ 900000) {A : Option Addr} {c : Nat} {xs : Bs} {ok : Nat → Prop} (hr : Rd w ok A (bvs xs)) (hm : xs.length ≤ 1000) (hn : n ≤ 1000000) :
    Ret Try.prog 11 [.pointer (some ⟨j, 0, none⟩), .slice A xs.length c] w fun v w' => v = .int .i64 0 ∧ JnK K B w' j d { D with bs := D.bs ++ framed xs } (n + 1) ∧ Fr (offK K B) w w' := by
  have hf := framed_length xs
  obtain ⟨e1, e2⟩ := hL.append (xs := framed xs) (by omega)
  have t1 : ntE D xs = 0 := by unfold ntE; rw [if_pos hm, e1]
  have t2 : ntD D xs = { D with bs := D.bs ++ framed xs } := by unfold ntD; rw [if_pos hm, e2]
  have t3 : ntN D xs n = n + 1 := by unfold ntN; rw [t1, if_pos rfl]
  have := note_ok h (c := c) hr (by omega) hn
  rwa [t1, t2, t3] at this
theorem note_long (h : JnK K B w j d D n) {A : Option Addr} {c : Nat} {xs : Bs} {ok : Nat → Prop} (hr : Rd w ok A (bvs xs)) (hm : ¬ xs.length ≤ 1000) (hm2 : xs.length ≤ 9000000000000000000) (hn : n ≤ 1000000) :
    Ret Try.prog 11 [.pointer (some ⟨j, 0, none⟩), .slice A xs.length c] w fun v w' => v = .int .i64 4 ∧ JnK K B w' j d D n ∧ Fr (offK K B) w w' := by
  have t1 : ntE D xs = 4 := by unfold ntE; rw [if_neg hm]
  have t2 : ntD D xs = D := by unfold ntD; rw [if_neg hm]
  have t3 : ntN D xs n = n := by unfold ntN; rw [t1, if_neg (by decide)]
  have := note_ok h (c := c) hr hm2 hn
  rwa [t1, t2, t3] at this
end
/-- Those that may be noted. -/
def fit (l : List Bs) : List Bs := l.filter fun y => decide (y.length ≤ 1000)
theorem fit_small (l : List Bs) : ∀ y ∈ fit l, y.length ≤ 1000 := fun y h => by
  unfold fit at h
  simpa using (List.mem_filter.1 h).2
theorem fit_succ {l : List Bs} {i : Nat} {y : Bs} (h : l[i]? = some y) : fit (l.take (i + 1)) = if y.length ≤ 1000 then fit (l.take i) ++ [y] else fit (l.take i) := by
  unfold fit
  rw [List.take_add_one, h, List.filter_append]
  split
  · rename_i hy; simp [hy]
  · rename_i hy; simp [hy]
theorem fit_le (l : List Bs) : (fit l).length ≤ l.length := List.length_filter_le _ _
section
variable {W : World} {A : Option Addr} {c : Nat} {xss : List Bs}
theorem journalLong_ok (h : Arg W A c xss) : Ret Try.prog 6 [.slice A xss.length c] W (Done W) := by
  have hcm : xss.length ≤ maxLen := by obtain ⟨_, _, _, h1, h2⟩ := h; omega
  simp only [maxLen] at hcm
  apply S6_calls
  refine (shown_ok W).use ?_
  rintro v w1 ⟨rfl, f1⟩
  refine ⟨_, rfl, ?_⟩
  refine (DkK.new (K := fun _ => False) (B := W.heap.size) f1.size (fun _ h => h.elim)).use ?_
  rintro v w2 ⟨rfl, h2, f2⟩
  generalize w1.heap.size = d at h2 ⊢
  refine ⟨_, rfl, ?_⟩
  refine (open0 h2).use ?_
  rintro v w3 ⟨j, A3, c3, rfl, h3, f3⟩
  have g3 : Bel W.heap.size W w3 := f1.bel0.trans' (f2.bel0.trans' (offK_bel f3))
  refine ⟨_, _, _, _, _, rfl, cF rfl (cF rfl ?_)⟩
  refine ⟨fun s w' => ∃ i : Nat, s.2.2.1 = (i : Int) ∧ i ≤ xss.length ∧ i ≤ 40 ∧ s.1 = ((fit (xss.take i)).length : Int) ∧ s.2.1 = ((frames (fit (xss.take i))).length : Int) ∧ JnK (fun _ => False) W.heap.size w' j d ⟨frames (fit (xss.take i)), 0, false, -1⟩ (fit (xss.take i)).length ∧ Bel W.heap.size W w', fun s _ => xss.length - s.2.2.1.toNat, ⟨0, rfl, Nat.zero_le _, Nat.zero_le _, rfl, rfl, h3, g3⟩, ?_⟩
  rintro J ⟨n', s', i', ⟨⟩⟩ w4 ⟨i, hi, hil, hi40, hn, hs, h4, g4⟩
  dsimp only at hi hn hs ⊢
  subst hi hn hs
  have hsm := fit_small (xss.take i)
  have hfl := frames_le hsm
  have hle := fit_le (xss.take i)
  rw [List.length_take] at hle
  -- the end
  have fin : S6_k5 true (some ⟨d, 0, none⟩) ((fit (xss.take i)).length : Int) ((frames (fit (xss.take i))).length : Int) w4 (Done W) := by
    have hsc := scan_frames hsm
    refine (open_ok h4.2.1 ⟨rfl, rfl⟩ (by simp only; omega)).use ?_
    rintro v w5 ⟨j5, hi5, A5, c5, rfl, fo5, h5, f5, _, _⟩
    have eO : opD ⟨frames (fit (xss.take i)), 0, false, -1⟩ = ⟨frames (fit (xss.take i)), (frames (fit (xss.take i))).length, false, -1⟩ := by
      unfold opD
      simp only [hsc, List.take_length]
    rw [eO] at h5
    simp only [hsc] at h5 ⊢
    refine ⟨_, _, _, _, _, rfl, cT rfl (cT rfl (cT rfl (cT (decide_eq_true rfl) ?_)))⟩
    refine (jlen_ok h5).use ?_
    rintro v w5 ⟨rfl, rfl⟩
    refine ⟨_, rfl, cT (decide_eq_true rfl) ?_⟩
    refine (safe_ok h5.2.1.1).use ?_
    rintro v w5 ⟨rfl, rfl⟩
    exact ⟨_, rfl, by rw [decide_eq_true rfl], (g4.trans' (offK_bel f5)).top⟩
  refine cD (fun hlt => ?_) (fun _ => fin)
  have hlt' : i < xss.length := by have : (i : Int) < (xss.length : Int) := hlt; omega
  refine cD (fun _ => cT rfl fin) (fun h40 => ?_)
  have hx : xss[i]? = some xss[i] := List.getElem?_eq_getElem hlt'
  obtain ⟨a, Bq, cq, hA, hcell, hcap, hr⟩ := h.at g4 hx
  have hstep := fit_succ hx
  generalize xss[i] = y at hx hcell hcap hr hstep
  refine ⟨a, hA, by omega, by omega, Bq, _, cq, hcell, cD (fun _ => fin) (fun h1100 => ?_)⟩
  have hy : y.length ≤ 1100 := by omega
  refine ⟨a, hA, by omega, by omega, Bq, _, cq, hcell, ?_⟩
  -- behind the note
  have k7 : ∀ (w5 : World) (f : Int) (l' : List Bs), l' = fit (xss.take (i + 1)) → (f = 0 ↔ y.length ≤ 1000) → JnK (fun _ => False) W.heap.size w5 j d ⟨frames l', 0, false, -1⟩ l'.length → Bel W.heap.size W w5 →
      S6_k7 A xss.length c true (some ⟨d, 0, none⟩) (some ⟨j, 0, none⟩) (l'.length : Int) ((frames l').length : Int) (i : Int) f (xss.length : Int) (i : Int) w5 (Done W) (fun s' w'' => (∃ i : Nat, s'.2.2.1 = (i : Int) ∧ i ≤ xss.length ∧ i ≤ 40 ∧ s'.1 = ((fit (xss.take i)).length : Int) ∧ s'.2.1 = ((frames (fit (xss.take i))).length : Int) ∧ JnK (fun _ => False) W.heap.size w'' j d ⟨frames (fit (xss.take i)), 0, false, -1⟩ (fit (xss.take i)).length ∧ Bel W.heap.size W w'') ∧ xss.length - s'.2.2.1.toNat < xss.length - (i : Int).toNat) := by
    intro w5 f l' hl' hf h5 g5
    refine (read_ok h5.2.1.1).use ?_
    rintro v w6 ⟨A6, c6, rfl, o6, f6⟩
    have h6 := h5.fr0 f6
    have g6 := g5.trans' f6.bel0
    obtain ⟨a', Bq', cq', hA', hcell', _, _⟩ := h.at g6 hx
    rw [hA] at hA'
    cases hA'
    have e1 : ((decide (f = 0)) == (decide (((y.length : Nat) : Int) ≤ 1000))) = true := by
      rw [beq_iff_eq, decide_eq_decide, hf]; omega
    refine ⟨_, _, _, _, rfl, a, hA, by omega, by omega, Bq', _, cq', hcell', cF (by rw [e1]; rfl) (cF rfl (cF ?_ ?_))⟩
    · show (!decide (((frames l').length : Int) = ((frames l').length : Int))) = false
      simp
    refine (jlen_ok h6).use ?_
    rintro v w6 ⟨rfl, rfl⟩
    refine ⟨_, rfl, cF (by simp) ?_⟩
    rw [IntWalk.i64_in _ (by omega)]
    subst hl'
    exact ⟨⟨i + 1, rfl, by omega, by omega, rfl, rfl, h6, g6⟩, by dsimp only; omega⟩
  by_cases hyk : y.length ≤ 1000
  · rw [if_pos hyk] at hstep
    refine (note_live h4 ⟨rfl, rfl⟩ (by simp only; omega) (c := cq) hr hyk (by omega)).use ?_
    rintro v w5 ⟨rfl, h5, f5⟩
    have g5 := g4.trans' (offK_bel f5)
    obtain ⟨a', Bq', cq', hA', hcell', _, _⟩ := h.at g5 hx
    rw [hA] at hA'
    cases hA'
    refine ⟨_, rfl, a, hA, by omega, by omega, Bq', _, cq', hcell', cT (decide_eq_true (by omega)) ⟨a, hA, by omega, by omega, Bq', _, cq', hcell', ?_⟩⟩
    have hfy := framed_length y
    have e1 : ((fit (xss.take i)).length : Int) + 1 = ((fit (xss.take i) ++ [y]).length : Int) := by simp
    have e2 : ((frames (fit (xss.take i))).length : Int) + ((y.length : Int) + 4) = ((frames (fit (xss.take i) ++ [y])).length : Int) := by
      rw [frames_snoc, List.length_append, hfy]; omega
    rw [IntWalk.i64_in ((y.length : Int) + 4) (by omega), IntWalk.i64_in _ (by omega), IntWalk.i64_in _ (by omega), e1, e2]
    refine k7 w5 0 _ hstep.symm (by simp [hyk]) ?_ g5
    rw [frames_snoc, List.length_append]
    exact h5
  · rw [if_neg hyk] at hstep
    refine (note_long h4 (c := cq) hr hyk (by omega) (by omega)).use ?_
    rintro v w5 ⟨rfl, h5, f5⟩
    have g5 := g4.trans' (offK_bel f5)
    obtain ⟨a', Bq', cq', hA', hcell', _, _⟩ := h.at g5 hx
    rw [hA] at hA'
    cases hA'
    refine ⟨_, rfl, a, hA, by omega, by omega, Bq', _, cq', hcell', cF (decide_eq_false (by omega)) ?_⟩
    exact k7 w5 4 _ hstep.symm (by simp [hyk]) h5 g5
end
end Go.Proofs
