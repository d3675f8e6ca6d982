import Derived.Test.YtgcffkjnacmpjaaLockG
set_option linter.unusedVariables false
namespace Go.Proofs
open Go Go.Eng
def uptoP (P : Nat → Bool) (n : Nat) : List Int := ((List.range n).filter P).map Int.ofNat
theorem uptoP_succ (P : Nat → Bool) (n : Nat) : uptoP P (n + 1) = uptoP P n ++ if P n then [(n : Int)] else [] := by
  unfold uptoP
  rw [List.range_succ, List.filter_append, List.map_append]
  by_cases h : P n
  · simp [h]
  · simp [h]
theorem uptoP_len (P : Nat → Bool) (n : Nat) : (uptoP P n).length ≤ n := by
  unfold uptoP; rw [List.length_map]; exact Nat.le_trans (List.length_filter_le _ _) (by simp)
theorem uptoP_congr {P Q : Nat → Bool} {n : Nat} (h : ∀ i, i < n → P i = Q i) : uptoP P n = uptoP Q n := by
  unfold uptoP
  congr 1
  apply List.filter_congr
  intro i hi
  exact h i (List.mem_range.1 hi)
theorem of_list (T : Tab) (hT : ∀ i, 0 ≤ T i ∧ T i ≤ 8) (r : Int) : uptoP (fun i => owned T i && decide (ownR T i = r)) 26 = robots T r := by
  unfold robots
  split
  · show _ = uptoP (fun i => decide (T i = r + 1)) 26
    apply uptoP_congr
    intro i hi
    have := hT i
    have e : owned T i = decide (T i ≠ 0) := by unfold owned; rw [decide_eq_decide, Int.toNat_natCast]; omega
    unfold ownR
    rw [e]
    by_cases h : T i = 0
    · simp [h]; omega
    · simp [h]; omega
  · have : uptoP (fun i => owned T i && decide (ownR T i = r)) 26 = uptoP (fun _ => false) 26 := by
      apply uptoP_congr
      intro i hi
      have := hT i
      unfold ownR
      cases h : owned T i with
      | false => rfl
      | true => simp [owned] at h; simp; omega
    rw [this]
    simp [uptoP]
theorem free_list (T : Tab) : uptoP (fun i => !owned T i) 26 = zonesOf T 0 := by
  show _ = uptoP (fun i => decide (T i = 0)) 26
  apply uptoP_congr
  intro i hi
  have e : owned T i = decide (T i ≠ 0) := by unfold owned; rw [decide_eq_decide, Int.toNat_natCast]; omega
  rw [e]
  by_cases h : T i = 0 <;> simp [h]
theorem ref_of {B : Nat} {w : World} {rf n : Nat} {T : Tab} (h : RefT B w rf n T) (hn : n ≤ 1000) (hT : ∀ i, 0 ≤ T i ∧ T i ≤ 8) (r : Int) : Ret Try.prog 17 [.pointer (some ⟨rf, 0, none⟩), .int .i64 r] w fun v w' => ∃ A c, v = .slice A (robots T r).length c ∧ Own w' 3 1 (bw w.heap.size w') A (robots T r).length c (ints (robots T r)) ∧ Fr none1 w w' := by
  apply S17_calls
  rw [← of_list T hT r]
  generalize hP : (fun i : Nat => owned T i && decide (ownR T i = r)) = P
  refine ⟨fun s w' => ∃ n : Nat, s.2.1 = (n : Int) ∧ n ≤ 26 ∧ s.1.2.1 = (uptoP P n).length ∧ Own w' 3 1 (bw w.heap.size w') s.1.1 (uptoP P n).length s.1.2.2 (ints (uptoP P n)) ∧ Bel w.heap.size w w', fun s _ => 26 - s.2.1.toNat, ⟨0, rfl, by omega, rfl, Own.nil _ _ _ _, Fr.refl _ _⟩, ?_⟩
  rintro J ⟨⟨A, l, c⟩, i, ⟨⟩⟩ w1 ⟨m, hi, hm, hl, o1, g1⟩
  dsimp only at hi hl o1 ⊢
  subst hi hl
  have hlen := uptoP_len P m
  refine cD (fun hlt => ?_) (fun hlt => ?_)
  · refine (ref_owner (h.fr0 g1.top) hn m).use ?_
    rintro v w2 ⟨rfl, rfl⟩
    refine ⟨_, _, rfl, ?_⟩
    have no : P m = false → S17_k2 (some ⟨rf, 0, none⟩) r A (uptoP P m).length c m false w2 (fun v w' => ∃ A c, v = .slice A (uptoP P 26).length c ∧ Own w' 3 1 (bw w.heap.size w') A (uptoP P 26).length c (ints (uptoP P 26)) ∧ Fr none1 w w') (fun s' w'' => (∃ n : Nat, s'.2.1 = (n : Int) ∧ n ≤ 26 ∧ s'.1.2.1 = (uptoP P n).length ∧ Own w'' 3 1 (bw w.heap.size w'') s'.1.1 (uptoP P n).length s'.1.2.2 (ints (uptoP P n)) ∧ Bel w.heap.size w w'') ∧ 26 - s'.2.1.toNat < 26 - (m : Int).toNat) := fun hp => by
      refine cF rfl ?_
      rw [IntWalk.i64_in ((m : Int) + 1) (by omega)]
      have e : uptoP P (m + 1) = uptoP P m := by rw [uptoP_succ, hp]; simp
      exact ⟨⟨m + 1, rfl, by omega, by rw [e], by rw [e]; exact o1, g1⟩, by dsimp only; omega⟩
    refine cB (fun ho => ?_) (fun ho => ?_)
    · by_cases hr : ownR T m = r
      · have hp : P m = true := by rw [← hP]; simp [ho, hr]
        refine cT (by simp [hr]) ?_
        obtain ⟨A', c', w3, r3, o3, f3, g3⟩ := app1 (ty := 31) E31 o1 g1.size (.int .i64 (m : Int)) rfl (by omega) (by simp only [maxLen]; omega)
        rw [IntWalk.i64_in ((m : Int) + 1) (by omega)]
        have e : uptoP P (m + 1) = uptoP P m ++ [(m : Int)] := by rw [uptoP_succ, hp]; simp
        refine ⟨A', _, c', w3, r3, ⟨m + 1, rfl, by omega, by simp [e], ?_, g1.trans' g3⟩, by dsimp only; omega⟩
        rw [e]
        simpa [ints] using o3
      · have hp : P m = false := by rw [← hP]; simp [hr]
        rw [decide_eq_false hr]
        exact no hp
    · have hp : P m = false := by rw [← hP]; simp [ho]
      exact no hp
  · have : m = 26 := by omega
    subst this
    exact ⟨A, c, rfl, o1, g1.top⟩
theorem ref_free {B : Nat} {w : World} {rf n : Nat} {T : Tab} (h : RefT B w rf n T) (hn : n ≤ 1000) : Ret Try.prog 19 [.pointer (some ⟨rf, 0, none⟩)] w fun v w' => ∃ A c, v = .slice A (zonesOf T 0).length c ∧ Own w' 3 1 (bw w.heap.size w') A (zonesOf T 0).length c (ints (zonesOf T 0)) ∧ Fr none1 w w' := by
  apply S19_calls
  rw [← free_list T]
  generalize hP : (fun i : Nat => !owned T i) = P
  refine ⟨fun s w' => ∃ n : Nat, s.2.1 = (n : Int) ∧ n ≤ 26 ∧ s.1.2.1 = (uptoP P n).length ∧ Own w' 3 1 (bw w.heap.size w') s.1.1 (uptoP P n).length s.1.2.2 (ints (uptoP P n)) ∧ Bel w.heap.size w w', fun s _ => 26 - s.2.1.toNat, ⟨0, rfl, by omega, rfl, Own.nil _ _ _ _, Fr.refl _ _⟩, ?_⟩
  rintro J ⟨⟨A, l, c⟩, i, ⟨⟩⟩ w1 ⟨m, hi, hm, hl, o1, g1⟩
  dsimp only at hi hl o1 ⊢
  subst hi hl
  have hlen := uptoP_len P m
  refine cD (fun hlt => ?_) (fun hlt => ?_)
  · refine (ref_owner (h.fr0 g1.top) hn m).use ?_
    rintro v w2 ⟨rfl, rfl⟩
    refine ⟨_, _, rfl, ?_⟩
    rw [IntWalk.i64_in ((m : Int) + 1) (by omega)]
    refine cB (fun ho => ?_) (fun ho => ?_)
    · have hp : P m = true := by rw [← hP]; exact ho
      obtain ⟨A', c', w3, r3, o3, f3, g3⟩ := app1 (ty := 31) E31 o1 g1.size (.int .i64 (m : Int)) rfl (by omega) (by simp only [maxLen]; omega)
      have e : uptoP P (m + 1) = uptoP P m ++ [(m : Int)] := by rw [uptoP_succ, hp]; simp
      refine ⟨A', _, c', w3, r3, ⟨m + 1, rfl, by omega, by simp [e], ?_, g1.trans' g3⟩, by dsimp only; omega⟩
      rw [e]
      simpa [ints] using o3
    · have hp : P m = false := by rw [← hP]; exact ho
      have e : uptoP P (m + 1) = uptoP P m := by rw [uptoP_succ, hp]; simp
      exact ⟨⟨m + 1, rfl, by omega, by rw [e], by rw [e]; exact o1, g1⟩, by dsimp only; omega⟩
  · have : m = 26 := by omega
    subst this
    exact ⟨A, c, rfl, o1, g1.top⟩
section
variable {W : World} {t rf : Nat}
theorem refF_no {B : Nat} {w w0 : World} {ts : List Nat} (hts : 38 ∉ ts ∧ 51 ∉ ts) : ∀ k, k < w.heap.size → refF B w k → ¬ hasTy w ts k := fun k _ ⟨_, cur, t, h1, h2⟩ ⟨cur', t', h3, h4⟩ => by
  rw [h1] at h3
  simp at h3
  obtain ⟨_, rfl⟩ := h3
  simp at h2
  rcases h2 with rfl | rfl
  · exact hts.1 h4
  · exact hts.2 h4
/-- The end of a step: all answers are compared. -/
theorem plays_cmp {R : Value → World → Prop} {B1 : Int × Unit → World → Prop} {w : World} {T : Tab} {A : Option Addr} {l c p : Nat} {n k : Nat} {a : Int} {x : LAct} (h : TabAt w t T) (hr : RefT W.heap.size w rf k T) (hk : k ≤ 1000) (hb : Blk w p 28 [.bool x.1, .int .i64 x.2.1, .int .i64 x.2.2]) (hn : (n : Int) + 1 ≤ 1000)
    (K : ∀ w', Fr none1 w w' → B1 ((n : Int) + 1, ()) w') : S4_k4 true (some ⟨t, 0, none⟩) ⟨rf, 0, none⟩ ⟨p, 0, none⟩ A l c a (n : Int) w R B1 := by
  refine ⟨_, by rw [add_g, hb.cell]; rfl, ?_⟩
  refine (owner_ok h _).use ?_
  rintro v w ⟨rfl, rfl⟩
  refine ⟨_, _, rfl, _, by rw [add_g, hb.cell]; rfl, ?_⟩
  refine (ref_owner hr hk _).use ?_
  rintro v w ⟨rfl, rfl⟩
  have d : Fr none1 w w.drew := Fr.drew w
  have h1 := h.fr d (fun h => h)
  have r1 := hr.fr0 d
  have b1 := hb.fr d (fun h => h)
  refine ⟨_, _, rfl, cF (by simp) (cF (by simp) ⟨_, by rw [add_g, b1.cell]; rfl, ?_⟩)⟩
  have fin : ∀ (w2 w3 : World) (A2 A3 : Option Addr) (c2 c3 : Nat) , Fr none1 w.drew w3 → Own w2 3 1 (bw w.drew.heap.size w2) A2 (robots T x.2.1).length c2 (ints (robots T x.2.1)) → Fr none1 w2 w3 → Own w3 3 1 (bw w2.heap.size w3) A3 (robots T x.2.1).length c3 (ints (robots T x.2.1)) →
      Calls Try.prog 12 ⟨[(.slice A2 (robots T x.2.1).length c2), (.slice A3 (robots T x.2.1).length c3)]⟩ w3 fun e w_ =>
        ∃ (t75 : Bool), e = .returned (.bool t75) ∧
        cond (!t75) (S4_k5 true (some ⟨t, 0, none⟩) ⟨rf, 0, none⟩ A l c a (n : Int) true w_ R B1) (
          Calls Try.prog 18 ⟨[(.pointer (some ⟨t, 0, none⟩))]⟩ w_ fun e w__5 =>
            ∃ (t80_a : Option Addr) (t80_l : Nat) (t80_c : Nat),
            e = .returned (.slice t80_a t80_l t80_c) ∧
            Calls Try.prog 19 ⟨[(.pointer (some ⟨rf, 0, none⟩))]⟩ w__5 fun e w__6 =>
              ∃ (t82_a : Option Addr) (t82_l : Nat) (t82_c : Nat),
              e = .returned (.slice t82_a t82_l t82_c) ∧
              Calls Try.prog 12 ⟨[(.slice t80_a t80_l t80_c), (.slice t82_a t82_l t82_c)]⟩ w__6 fun e w__7 =>
                ∃ (t83 : Bool),
                e = .returned (.bool t83) ∧
                S4_k5 true (some ⟨t, 0, none⟩) ⟨rf, 0, none⟩ A l c a (n : Int) (!t83) w__7 R B1) := by
    intro w2 w3 A2 A3 c2 c3 f3 o2 f23 o3
    refine (same_ok (o2.rd.fr f23 fun _ _ _ h => h) o3.rd o3.max).use ?_
    rintro v w4 ⟨rfl, f4⟩
    refine ⟨_, rfl, cF (by simp) ?_⟩
    have f4' := f3.trans' f4
    refine (free_ok (h1.fr f4' fun h => h)).use ?_
    rintro v w5 ⟨A5, c5, rfl, o5, f5⟩
    refine ⟨_, _, _, rfl, ?_⟩
    refine (ref_free (r1.fr0 (f4'.trans' f5)) hk).use ?_
    rintro v w6 ⟨A6, c6, rfl, o6, f6⟩
    refine ⟨_, _, _, rfl, ?_⟩
    refine (same_ok (o5.rd.fr f6 fun _ _ _ h => h) o6.rd o6.max).use ?_
    rintro v w7 ⟨rfl, f7⟩
    refine ⟨_, rfl, cF (by simp) ?_⟩
    rw [IntWalk.i64_in ((n : Int) + 1) (by omega)]
    exact K w7 (d.trans' (f4'.trans' (f5.trans' (f6.trans' f7))))
  refine ⟨?_, ?_⟩
  · refine (of_ok h1 _).use ?_
    rintro v w2 ⟨A2, c2, rfl, o2, f2⟩
    refine ⟨_, _, _, rfl, _, by rw [add_g, (b1.fr f2 fun h => h).cell]; rfl, ?_⟩
    refine (ref_of (r1.fr0 f2) hk h.2 _).use ?_
    rintro v w3 ⟨A3, c3, rfl, o3, f3⟩
    exact ⟨_, _, _, rfl, fin w2 w3 A2 A3 c2 c3 (f2.trans' f3) o2 f3 o3⟩
  · refine ⟨_, by rw [add_g, b1.cell]; rfl, ?_⟩
    refine (of_ok h1 _).use ?_
    rintro v w2 ⟨A2, c2, rfl, o2, f2⟩
    refine ⟨_, _, _, rfl, ?_⟩
    refine (ref_of (r1.fr0 f2) hk h.2 _).use ?_
    rintro v w3 ⟨A3, c3, rfl, o3, f3⟩
    exact ⟨_, _, _, rfl, fin w2 w3 A2 A3 c2 c3 (f2.trans' f3) o2 f3 o3⟩
theorem lockPlays_ok {A : Option Addr} {l c : Nat} {al : List LAct} (h : RowAt W.heap.size 3 (ActQ W) A al) (hl : al.length = l) (hc : l ≤ c) : Ret Try.prog 4 [.slice A l c] W (Done W) := by
  apply S4_calls
  refine (shown_ok _).use ?_
  rintro v w1 ⟨rfl, f1⟩
  refine ⟨_, rfl, ?_⟩
  refine (new_ok w1).use ?_
  rintro v w2 ⟨t, rfl, ht, h2, f2⟩
  have ht : W.heap.size ≤ t := Nat.le_trans f1.size ht
  refine ⟨_, rfl, cF rfl ?_⟩
  have gg : Bel W.heap.size W w2 := f1.bel0.trans' f2.bel0
  have a0 : Fr none1 w2 (w2.alloc (.cells ⟨[.slice none 0 0]⟩ 38)) := Fr.alloc _ _
  have r2 : RefT W.heap.size (w2.alloc (.cells ⟨[.slice none 0 0]⟩ 38)) w2.heap.size 0 (fun _ => 0) := ⟨[], ⟨⟨gg.size, by simp⟩, none, 0, Blk.new w2 38 _, Own.nil _ _ _ _⟩, ⟨by simp, by simp, fun z _ h => absurd rfl h⟩, Nat.le_refl _⟩
  have h2' := h2.fr a0 (fun h => h)
  have g2 := gg.trans' a0.bel0
  show Calls Try.prog 9 ⟨[.slice A l c]⟩ (w2.alloc (.cells ⟨[.slice none 0 0]⟩ 38)) _
  generalize w2.heap.size = rf at r2 ⊢
  generalize w2.alloc (.cells ⟨[.slice none 0 0]⟩ 38) = w2 at r2 h2' g2 ⊢
  have gt : ∀ {a b : World}, Fr (tbF t) a b → Bel W.heap.size a b := fun f => f.bel fun k hk => hk ▸ ht
  refine (few_ok h hl hc).use ?_
  rintro v w2 ⟨rfl, n1, d1, bs, rfl, hbl, hb300, hrow⟩
  refine ⟨_, _, _, rfl, ?_⟩
  refine ⟨fun s w' => ∃ (n : Nat) (T : Tab), s.1 = (n : Int) ∧ n ≤ n1 ∧ Bel W.heap.size W w' ∧ TabAt w' t T ∧ RefT W.heap.size w' rf n T, fun s _ => n1 - s.1.toNat, ⟨0, _, rfl, Nat.zero_le _, g2, h2', r2⟩, ?_⟩
  rintro J ⟨i, ⟨⟩⟩ w3 ⟨n, T, hi, hn, g3, h3, r3⟩
  dsimp only at hi ⊢
  subst hi
  refine cD (fun hlt => ?_) (fun hlt => ?_)
  · have hx : bs[n]? = some bs[n] := List.getElem?_eq_getElem (by omega)
    obtain ⟨a, ha, hab, hq⟩ := hrow n _ hx
    obtain ⟨q1, q2, q3, q4, q5⟩ := hq.fr (Nat.le_refl _) (by rw [add_block]; exact hab) g3
    refine ⟨a, ha, by omega, by omega, _, by rw [Int.toNat_natCast]; exact q1, _, by rw [Int.toNat_natCast]; exact q2, _, by rw [Int.toNat_natCast]; exact q3, ?_⟩
    obtain ⟨p1, p2, p3, p4, p5, p6, b4, f4⟩ := cp3 w3 28 (.bool false) (.int .i64 0) (.int .i64 0) (.bool bs[n].1) (.int .i64 bs[n].2.1) (.int .i64 bs[n].2.2)
    refine ⟨p1, p2, p3, p4, p5, p6, ?_⟩
    generalize World.setCell _ _ _ = w4 at b4 f4 ⊢
    generalize w3.heap.size = p at b4 ⊢
    refine ⟨_, by rw [b4.cell]; rfl, _, by rw [b4.cell]; rfl, _, by rw [b4.cell]; rfl, ?_⟩
    have h4 := h3.fr f4 (fun h => h)
    refine (does_ok h4 bs[n] q4).use ?_
    rintro v w5 ⟨rfl, h5, f5⟩
    have b5 := b4.fr f5 (fun e => (b4.ne h4.1 (by decide)) e)
    have r5 := (r3.fr0 f4).frT f5 (tbF_no h4 (by decide))
    have g5 := (g3.trans' f4.bel0).trans' (gt f5)
    have hB5 := g5.size
    refine ⟨_, rfl, _, by rw [b5.cell]; rfl, ?_⟩
    have fin : ∀ w6, TabAt w6 t (actT T bs[n]) → RefT W.heap.size w6 rf (n + 1) (actT T bs[n]) → Bel W.heap.size w5 w6 → Blk w6 p 28 [.bool bs[n].1, .int .i64 bs[n].2.1, .int .i64 bs[n].2.2] →
        S4_k4 true (some ⟨t, 0, none⟩) ⟨rf, 0, none⟩ ⟨p, 0, none⟩ A n1 d1 (n1 : Int) (n : Int) w6 (Done W) (fun s' w'' => (∃ (n : Nat) (T : Tab), s'.1 = (n : Int) ∧ n ≤ n1 ∧ Bel W.heap.size W w'' ∧ TabAt w'' t T ∧ RefT W.heap.size w'' rf n T) ∧ n1 - s'.1.toNat < n1 - (n : Int).toNat) := by
      intro w6 h6 r6 g6 b6
      exact plays_cmp h6 r6 (by omega) b6 (by omega) fun w7 f7 => ⟨⟨n + 1, _, rfl, by omega, (g5.trans' g6).trans' f7.bel0, h6.fr f7 (fun h => h), r6.fr0 f7⟩, by dsimp only; omega⟩
    refine cB (fun hg => ?_) (fun hg => ?_)
    · have eE : actE T bs[n] = relE T bs[n].2.1 bs[n].2.2 := by unfold actE; rw [if_pos hg]
      have eT : actT T bs[n] = relT T bs[n].2.1 bs[n].2.2 := by unfold actT; rw [if_pos hg]
      refine ⟨_, by rw [add_g, b5.cell]; rfl, _, by rw [add_g, b5.cell]; rfl, ?_⟩
      refine (ref_rel r5 hB5 (by omega) _ _).use ?_
      rintro v w6 ⟨rfl, r6, f6⟩
      refine ⟨_, rfl, cF (by simp [eE]) ?_⟩
      obtain ⟨Ps, a1, a2, a3⟩ := r6
      exact fin w6 (h5.fr f6 fun hk => refF_no (w0 := w5) (ts := [48]) (by decide) t h5.1.lt hk (h5.1.hasTy (by decide))) ⟨Ps, a1, by rw [eT]; exact a2, by omega⟩ (f6.bel fun k hk => hk.1.1) (b5.fr f6 fun hk => refF_no (w0 := w5) (ts := [28]) (by decide) p b5.lt hk (b5.hasTy (by decide)))
    · have hg' : ¬ bs[n].1 = true := by rw [hg]; decide
      have eE : actE T bs[n] = holdE T bs[n].2.1 bs[n].2.2 := by unfold actE; rw [if_neg hg']
      have eT : actT T bs[n] = holdT T bs[n].2.1 bs[n].2.2 := by unfold actT; rw [if_neg hg']
      refine ⟨_, by rw [add_g, b5.cell]; rfl, _, by rw [add_g, b5.cell]; rfl, ?_⟩
      refine (ref_hold r5 hB5 (by omega) _ _).use ?_
      rintro v w6 ⟨rfl, r6, f6⟩
      refine ⟨_, rfl, cF (by simp [eE]) ?_⟩
      obtain ⟨Ps, a1, a2, a3⟩ := r6
      exact fin w6 (h5.fr f6 fun hk => refF_no (w0 := w5) (ts := [48]) (by decide) t h5.1.lt hk (h5.1.hasTy (by decide))) ⟨Ps, a1, by rw [eT]; exact a2, by omega⟩ (f6.bel fun k hk => hk.1.1) (b5.fr f6 fun hk => refF_no (w0 := w5) (ts := [28]) (by decide) p b5.lt hk (b5.hasTy (by decide)))
  · exact ⟨rfl, g3.top⟩
end
end Go.Proofs
