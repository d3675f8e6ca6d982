import Derived.Test.YtgcffkjnacmpjaaLockE
set_option linter.unusedVariables false
namespace Go.Proofs
open Go Go.Eng
/-- Rows of rows of ints. -/
def RowsAt (B : Nat) (w : World) (A : Option Addr) (c n : Nat) (L : Nat → List Int) : Prop :=
  ∃ vs, Own w 31 1 (bw B w) A n c vs ∧ ∀ i, i < n → ∃ Ai ci, vs[i]? = some (.slice Ai (L i).length ci) ∧ Own w 3 1 (bw B w) Ai (L i).length ci (ints (L i))
theorem RowsAt.frT {B : Nat} {w w' : World} {A : Option Addr} {c n : Nat} {L : Nat → List Int} {F : Nat → Prop} (h : RowsAt B w A c n L) (hf : Fr F w w') (hF : ∀ k, k < w.heap.size → F k → ¬ hasTy w [31, 3] k) : RowsAt B w' A c n L := by
  obtain ⟨vs, o, hv⟩ := h
  refine ⟨vs, (o.fr1 hf fun a ha hk => hF _ (o.has a ha).2 hk (by obtain ⟨cur, hc⟩ := o.obj a ha; exact ⟨cur, 31, hc, by decide⟩)).mono fun k hk h => ⟨h.1, hk⟩, fun i hi => ?_⟩
  obtain ⟨Ai, ci, h1, h2⟩ := hv i hi
  exact ⟨Ai, ci, h1, (h2.fr1 hf fun a ha hk => hF _ (h2.has a ha).2 hk (by obtain ⟨cur, hc⟩ := h2.obj a ha; exact ⟨cur, 3, hc, by decide⟩)).mono fun k hk h => ⟨h.1, hk⟩⟩
theorem RowsAt.fr0 {B : Nat} {w w' : World} {A : Option Addr} {c n : Nat} {L : Nat → List Int} (h : RowsAt B w A c n L) (hf : Fr none1 w w') : RowsAt B w' A c n L := h.frT hf fun k _ h => h.elim
theorem RowsAt.push {B : Nat} {w : World} {A : Option Addr} {c n : Nat} {L : Nat → List Int} (h : RowsAt B w A c n L) (hB : B ≤ w.heap.size) (hn : n ≤ 1000) {A6 : Option Addr} {c6 : Nat} (o6 : Own w 3 1 (bw B w) A6 (L n).length c6 (ints (L n))) :
    ∃ A' c' w', (Builtin.append_ #[45, 45] 45 ⟨[.slice A n c, .slice (some ⟨w.heap.size, 0, none⟩) 1 1]⟩).run Try.prog (w.alloc (.cells ⟨[.slice A6 (L n).length c6]⟩ 31)) = .ok (.slice A' (n + 1) c') w' ∧
      RowsAt B w' A' c' (n + 1) L ∧ Fr (fun k => hasTy w [31] k) w w' ∧ Bel B w w' := by
  obtain ⟨vs, o5, hv5⟩ := h
  obtain ⟨A7, c7, w7, r7, o7, f7, g7⟩ := app1 (ty := 45) E45 o5 hB (.slice A6 (L n).length c6) rfl (by omega) (by simp only [maxLen]; omega)
  refine ⟨A7, c7, w7, r7, ⟨_, o7, fun i hi => ?_⟩, f7.mono fun k hk ⟨a, ha, e⟩ => ?_, g7⟩
  · by_cases e : i < n
    · obtain ⟨Ai, ci, e1, e2⟩ := hv5 i e
      refine ⟨Ai, ci, by rw [List.getElem?_append, if_pos (by have := o5.1; omega)]; exact e1, ?_⟩
      exact (e2.fr1 f7 (fun a ha ⟨a', ha', e⟩ => o5.ne_own e2 (by decide) a' ha' ⟨a, ha, e.symm⟩)).mono fun k hk h => ⟨h.1, hk⟩
    · have : i = n := by omega
      subst this
      refine ⟨A6, c6, by rw [List.getElem?_append, if_neg (by have := o5.1; omega)]; have := o5.1; simp [this], ?_⟩
      exact (o6.fr1 f7 (fun a ha ⟨a', ha', e⟩ => o5.ne_own o6 (by decide) a' ha' ⟨a, ha, e.symm⟩)).mono fun k hk h => ⟨h.1, hk⟩
  · subst e
    obtain ⟨cur, hc⟩ := o5.obj a ha
    exact ⟨cur, 31, hc, by decide⟩
theorem mem_upto {T : Tab} {o : Int} {n : Nat} {x : Int} : x ∈ upto T o n ↔ ∃ i : Nat, x = (i : Int) ∧ i < n ∧ T i = o := by
  unfold upto
  simp only [List.mem_map, List.mem_filter, List.mem_range, decide_eq_true_eq]
  constructor
  · rintro ⟨i, ⟨h1, h2⟩, rfl⟩; exact ⟨i, rfl, h1, h2⟩
  · rintro ⟨i, rfl, h1, h2⟩; exact ⟨i, ⟨h1, h2⟩, rfl⟩
theorem sorted_upto (T : Tab) (o : Int) (n : Nat) : (upto T o n).Pairwise (· < ·) := by
  unfold upto
  rw [List.pairwise_map]
  exact (List.Pairwise.filter _ List.pairwise_lt_range).imp fun h => by simpa using h
/-- How often a zone was met, when lists 0 .. j - 1 and k elements of list j were walked. -/
def met (T : Tab) (j k : Nat) : Nat → Int := fun z => (if T z < j then 1 else 0) + (if (z : Int) ∈ (zonesOf T j).take k then 1 else 0)
theorem met_next {T : Tab} {j k : Nat} {x : Int} (h : (zonesOf T j)[k]? = some x) : ∃ z : Nat, x = (z : Int) ∧ z < 26 ∧ T z = j ∧ met T j k z = 0 ∧ ∀ i, met T j (k + 1) i = upd (met T j k) z 1 i := by
  obtain ⟨z, rfl, hz, hT⟩ := mem_upto.1 (List.mem_of_getElem? h)
  have hk := (List.getElem?_eq_some_iff.1 h).1
  have hnot : ¬ (z : Int) ∈ (zonesOf T j).take k := by
    intro hm
    obtain ⟨i, hi, e⟩ := List.mem_iff_getElem.1 hm
    rw [List.length_take] at hi
    rw [List.getElem_take] at e
    have e2 := (List.getElem?_eq_some_iff.1 h).2
    have := List.pairwise_iff_getElem.1 (sorted_upto T j 26) i k (by unfold zonesOf at hk; omega) (by unfold zonesOf at hk; omega) (by omega)
    unfold zonesOf at e e2
    omega
  refine ⟨z, rfl, hz, hT, ?_, fun i => ?_⟩
  · unfold met; rw [if_neg (by omega), if_neg hnot]; rfl
  · unfold met upd
    rw [List.take_add_one, h]
    simp only [Option.toList, List.mem_append, List.mem_singleton]
    by_cases e : i = z
    · subst e
      rw [if_pos rfl, if_neg (by omega), if_pos (.inr rfl)]; rfl
    · rw [if_neg e]
      have : ((i : Int) = (z : Int)) ↔ False := by constructor; intro h; omega; exact False.elim
      simp only [this, or_false]
theorem met_done {T : Tab} (hT : ∀ i, 0 ≤ T i ∧ T i ≤ 8) (j : Nat) : ∀ i, i < 26 → met T j (zonesOf T j).length i = met T (j + 1) 0 i := by
  intro i hi
  unfold met
  rw [List.take_length, List.take_zero]
  have : ((i : Int) ∈ zonesOf T j) ↔ T i = j := by
    unfold zonesOf
    rw [mem_upto]
    constructor
    · rintro ⟨i', e, _, h⟩
      have : i = i' := by omega
      subst this; exact h
    · intro h; exact ⟨i, rfl, hi, h⟩
  simp only [this, List.not_mem_nil, if_false]
  have := hT i
  by_cases h1 : T i = j
  · rw [if_neg (by omega), if_pos h1, if_pos (by omega)]; rfl
  · rw [if_neg h1]
    by_cases h2 : T i < j
    · rw [if_pos h2, if_pos (by omega)]
    · rw [if_neg h2, if_neg (by omega)]
theorem arr_congr {n : Nat} {f g : Nat → Int} (h : ∀ i, i < n → f i = g i) : arr n f = arr n g := by
  unfold arr
  apply List.map_congr_left
  intro i hi
  rw [h i (List.mem_range.1 hi)]
section
variable {W : World} {t m : Nat}
def lst (T : Tab) : Nat → List Int := fun j => zonesOf T (j : Int)
/-- What stands while a step of LockOnce counts. -/
def St (W w : World) (t m : Nat) (T : Tab) (f : Nat → Int) : Prop := TabAt w t T ∧ Blk w m 44 (arr 26 f) ∧ Bel W.heap.size W w ∧ W.heap.size ≤ m ∧ W.heap.size ≤ t
theorem St.fr0 {w w' : World} {T : Tab} {f : Nat → Int} (h : St W w t m T f) (hf : Fr none1 w w') : St W w' t m T f := ⟨h.1.fr hf (fun h => h), h.2.1.fr hf (fun h => h), h.2.2.1.trans' hf.bel0, h.2.2.2⟩
theorem once_zones {R : Value → World → Prop} {B1 : Int × Unit → World → Prop} {w : World} {T : Tab} {A : Option Addr} {l c : Nat} {n : Nat} {a : Int} (h : St W w t m T (met T 9 0)) (hn : (n : Int) + 1 ≤ 1000) (k : B1 ((n : Int) + 1, ()) w) :
    S5_k13 true (some ⟨t, 0, none⟩) ⟨m, 0, none⟩ A l c a (n : Int) w R B1 := by
  refine ⟨fun s w' => w' = w ∧ ∃ z : Nat, s.1 = (z : Int) ∧ z ≤ 26, fun s _ => 26 - s.1.toNat, ⟨rfl, 0, rfl, by omega⟩, ?_⟩
  rintro J ⟨i, ⟨⟩⟩ w' ⟨rfl, z, hz, hle⟩
  dsimp only at hz ⊢
  subst hz
  refine cD (fun hlt => ?_) (fun hlt => ?_)
  · have hz : z < 26 := by omega
    have e : met T 9 0 z = 1 := by
      have := h.1.2 z
      unfold met
      rw [if_pos (by omega), List.take_zero, if_neg (by simp)]; rfl
    refine ⟨by omega, by omega, _, by rw [add_g, h.2.1.cell, Nat.mul_one, Int.toNat_natCast, arr_get hz, e], cF rfl ?_⟩
    rw [IntWalk.i64_in ((z : Int) + 1) (by omega)]
    exact ⟨⟨rfl, z + 1, rfl, by omega⟩, by dsimp only; omega⟩
  · rw [IntWalk.i64_in ((n : Int) + 1) (by omega)]
    exact k
theorem once_lists {R : Value → World → Prop} {B1 : Int × Unit → World → Prop} {w : World} {T : Tab} {A Al : Option Addr} {l c cl : Nat} {n : Nat} {a : Int} (h : St W w t m T (met T 0 0)) (hr : RowsAt W.heap.size w Al cl 9 (lst T)) (hn : (n : Int) + 1 ≤ 1000)
    (k : ∀ w', St W w' t m T (met T 9 0) → B1 ((n : Int) + 1, ()) w') :
    S5_k5 true (some ⟨t, 0, none⟩) ⟨m, 0, none⟩ Al 9 cl A l c a (n : Int) w R B1 := by
  refine ⟨fun s w' => ∃ j : Nat, s.1 = (j : Int) ∧ j ≤ 9 ∧ St W w' t m T (met T j 0) ∧ RowsAt W.heap.size w' Al cl 9 (lst T), fun s _ => 9 - s.1.toNat, ⟨0, rfl, by omega, h, hr⟩, ?_⟩
  rintro J ⟨i, ⟨⟩⟩ w1 ⟨j, hj, hle, h1, r1⟩
  dsimp only at hj ⊢
  subst hj
  refine cD (fun hlt => ?_) (fun hlt => ?_)
  · obtain ⟨vs, o1, hv1⟩ := r1
    obtain ⟨Aj, cj, e1, e2⟩ := hv1 j (by omega)
    obtain ⟨ad, had, _, hc⟩ := o1.rd.at e1
    refine ⟨ad, had, by omega, by omega, Aj, _, cj, by rw [Int.toNat_natCast, Nat.mul_one]; exact hc, ?_⟩
    refine ⟨fun s w' => ∃ q : Nat, s.1 = (q : Int) ∧ q ≤ (lst T j).length ∧ St W w' t m T (met T j q) ∧ Fr (fun k => k = m) w1 w', fun s _ => (lst T j).length - s.1.toNat, ⟨0, rfl, Nat.zero_le _, h1, Fr.refl _ _⟩, ?_⟩
    rintro J ⟨i, ⟨⟩⟩ w2 ⟨q, hq, hle2, h2, f2⟩
    dsimp only at hq ⊢
    subst hq
    have hlen := e2.max
    simp only [maxLen] at hlen
    have no2 : ∀ k, k < w1.heap.size → k = m → ¬ hasTy w1 [31, 3] k := fun k _ e => by subst e; exact h1.2.1.notTy (by decide)
    have e2' := e2.fr1 f2 (fun a ha e => e2.ne_blk h1.2.1 (by decide) a ha e)
    refine cD (fun hlt2 => ?_) (fun hlt2 => ?_)
    · have hx : (lst T j)[q]? = some (lst T j)[q] := List.getElem?_eq_getElem (by omega)
      obtain ⟨z, ez, hz, hT, hm0, hupd⟩ := met_next hx
      rw [ez] at hx
      obtain ⟨ad2, had2, _, hc2⟩ := e2'.rd.at (ints_get hx)
      refine ⟨ad2, had2, by omega, by omega, _, by rw [Int.toNat_natCast, Nat.mul_one]; exact hc2, ?_⟩
      refine cF (by simp) (cF (by simp; omega) ?_)
      have hcz : w2.cell? (Addr.add ⟨m, 0, none⟩ (Int.toNat (z : Int) * 1)) = some (.int .i64 0) := by rw [add_g, h2.2.1.cell, Nat.mul_one, Int.toNat_natCast, arr_get hz, hm0]
      refine ⟨by omega, by omega, 0, hcz, by omega, by omega, ⟨_, hcz⟩, by rw [add_g]; exact h2.2.1.free _, ?_⟩
      have hs : Fr (fun k => k = m) w2 (w2.setCell (Addr.add ⟨m, 0, none⟩ (Int.toNat (z : Int) * 1)) (.int .i64 (IntKind.i64.wrap (0 + 1)))) := by
        rw [add_g]; exact Fr.setCell (F := fun k => k = m) w2 rfl _
      have hw : IntKind.i64.wrap (0 + 1) = 1 := by decide
      have hb3 : Blk (w2.setCell (Addr.add ⟨m, 0, none⟩ (Int.toNat (z : Int) * 1)) (.int .i64 (IntKind.i64.wrap (0 + 1)))) m 44 (arr 26 (met T j (q + 1))) := by
        rw [add_g, hw, Nat.mul_one, Int.toNat_natCast, arr_congr (fun i _ => hupd i), ← arr_set]
        exact h2.2.1.set _ _
      generalize World.setCell _ _ _ = w3 at hs hb3 ⊢
      have hne : ¬ (t = m) := fun e => (h2.1.1.ne h2.2.1 (by decide)) e
      have h3 : St W w3 t m T (met T j (q + 1)) := ⟨h2.1.fr hs hne, hb3, h2.2.2.1.trans' (hs.bel fun k hk => hk ▸ h2.2.2.2.1), h2.2.2.2⟩
      refine (owner_ok h3.1 z).use ?_
      rintro v w3 ⟨rfl, rfl⟩
      refine ⟨_, _, rfl, ?_⟩
      have ho : owned T z = decide ((0 : Int) < j) := by
        unfold owned
        rw [Int.toNat_natCast, hT, decide_eq_decide]
        omega
      have fin : S5_k12 true (some ⟨t, 0, none⟩) ⟨m, 0, none⟩ (j : Int) A l c a (n : Int) Al 9 cl ((9 : Nat) : Int) (j : Int) Aj (lst T j).length cj ((lst T j).length : Int) (q : Int) false w3 R B1 (fun s' w'' => (∃ j : Nat, s'.1 = (j : Int) ∧ j ≤ 9 ∧ St W w'' t m T (met T j 0) ∧ RowsAt W.heap.size w'' Al cl 9 (lst T)) ∧ 9 - s'.1.toNat < 9 - (j : Int).toNat) (fun s' w'' => (∃ q : Nat, s'.1 = (q : Int) ∧ q ≤ (lst T j).length ∧ St W w'' t m T (met T j q) ∧ Fr (fun k => k = m) w1 w'') ∧ (lst T j).length - s'.1.toNat < (lst T j).length - (q : Int).toNat) := by
        refine cF rfl ?_
        rw [IntWalk.i64_in ((q : Int) + 1) (by omega)]
        exact ⟨⟨q + 1, rfl, by omega, h3, f2.trans' hs⟩, by dsimp only; omega⟩
      refine cF (by simp [ho]) (cB (fun ht => ?_) (fun ht => fin))
      have : ownR T z = (j : Int) - 1 := by
        simp only [ownR, ht, if_true, Int.toNat_natCast, hT]
      rw [this, IntWalk.i64_in ((j : Int) - 1) (by omega)]
      have e0 : (!decide ((j : Int) - 1 = (j : Int) - 1)) = false := by simp
      rw [e0]
      exact fin
    · have hqe : q = (lst T j).length := by omega
      subst hqe
      rw [IntWalk.i64_in ((j : Int) + 1) (by omega)]
      refine ⟨⟨j + 1, rfl, by omega, ⟨h2.1, ?_, h2.2.2⟩, RowsAt.frT ⟨vs, o1, hv1⟩ f2 no2⟩, by dsimp only; omega⟩
      rw [← arr_congr (met_done h2.1.2 j)]
      exact h2.2.1
  · have : j = 9 := by omega
    subst this
    exact once_zones h1 hn (k w1 h1)
theorem lockOnce_ok {A : Option Addr} {l c : Nat} {al : List LAct} (h : RowAt W.heap.size 3 (ActQ W) A al) (hl : al.length = l) (hc : l ≤ c) : Ret Try.prog 5 [.slice A l c] W (Done W) := by
  apply S5_calls
  refine (shown_ok _).use ?_
  rintro v w1 ⟨rfl, f1⟩
  refine ⟨_, rfl, ?_⟩
  refine (new_ok w1).use ?_
  rintro v w2 ⟨t, rfl, ht, h2, f2⟩
  have ht : W.heap.size ≤ t := Nat.le_trans f1.size ht
  refine ⟨_, rfl, cF rfl ?_⟩
  have g2 : Bel W.heap.size W w2 := f1.bel0.trans' f2.bel0
  have gt : ∀ {a b : World}, Fr (tbF t) a b → Bel W.heap.size a b := fun f => f.bel fun k hk => hk ▸ ht
  refine (few_ok h hl hc).use ?_
  rintro v w2 ⟨rfl, n1, d1, bs, rfl, hbl, hb300, hrow⟩
  refine ⟨_, _, _, rfl, ?_⟩
  refine ⟨fun s w' => ∃ (n : Nat) (T : Tab), s.1 = (n : Int) ∧ n ≤ n1 ∧ Bel W.heap.size W w' ∧ TabAt w' t T, fun s _ => n1 - s.1.toNat, ⟨0, _, rfl, Nat.zero_le _, g2, h2⟩, ?_⟩
  rintro J ⟨i, ⟨⟩⟩ w3 ⟨n, T0, hi, hn, g3, h3⟩
  dsimp only at hi ⊢
  subst hi
  refine cD (fun hlt => ?_) (fun hlt => ?_)
  · have hx : bs[n]? = some bs[n] := List.getElem?_eq_getElem (by omega)
    obtain ⟨a, ha, hab, hq⟩ := hrow n _ hx
    obtain ⟨q1, q2, q3, q4, q5⟩ := hq.fr (Nat.le_refl _) (by rw [add_block]; exact hab) g3
    refine ⟨a, ha, by omega, by omega, _, by rw [Int.toNat_natCast]; exact q1, _, by rw [Int.toNat_natCast]; exact q2, _, by rw [Int.toNat_natCast]; exact q3, ?_⟩
    obtain ⟨p1, p2, p3, p4, p5, p6, b4, f4⟩ := cp3 w3 28 (.bool false) (.int .i64 0) (.int .i64 0) (.bool bs[n].1) (.int .i64 bs[n].2.1) (.int .i64 bs[n].2.2)
    refine ⟨p1, p2, p3, p4, p5, p6, ?_⟩
    generalize World.setCell _ _ _ = w4 at b4 f4 ⊢
    refine ⟨_, by rw [b4.cell]; rfl, _, by rw [b4.cell]; rfl, _, by rw [b4.cell]; rfl, ?_⟩
    refine (does_ok (h3.fr f4 fun h => h) bs[n] q4).use ?_
    rintro v w5 ⟨rfl, h5, f5⟩
    refine ⟨_, rfl, ?_⟩
    have g5 := (g3.trans' f4.bel0).trans' (gt f5)
    generalize actT T0 bs[n] = T at h5
    have bm : Blk (w5.alloc (.cells ⟨arr 26 (fun _ => 0)⟩ 44)) w5.heap.size 44 (arr 26 (fun _ => 0)) := Blk.new w5 44 _
    have fm : Fr none1 w5 (w5.alloc (.cells ⟨arr 26 (fun _ => 0)⟩ 44)) := Fr.alloc _ _
    have s6 : St W (w5.alloc (.cells ⟨arr 26 (fun _ => 0)⟩ 44)) t w5.heap.size T (met T 0 0) := by
      refine ⟨h5.fr fm (fun h => h), ?_, g5.trans' fm.bel0, g5.size, ht⟩
      rw [arr_congr (f := met T 0 0) (g := fun _ => 0) fun i _ => by
        have := h5.2 i
        unfold met
        rw [if_neg (by omega), List.take_zero, if_neg (by simp)]; rfl]
      exact bm
    show Calls Try.prog 18 ⟨[(.pointer (some ⟨t, 0, none⟩))]⟩ (w5.alloc (.cells ⟨arr 26 (fun _ => 0)⟩ 44)) _
    generalize w5.alloc (.cells ⟨arr 26 (fun _ => 0)⟩ 44) = w6 at s6 ⊢
    generalize w5.heap.size = m at s6 ⊢
    refine (free_ok s6.1).use ?_
    rintro v w7 ⟨A7, c7, rfl, o7, f7⟩
    refine ⟨_, _, _, rfl, ?_⟩
    have s7 := s6.fr0 f7
    have f8 : Fr none1 w7 (w7.alloc (.cells ⟨[.slice A7 (zonesOf T 0).length c7]⟩ 31)) := Fr.alloc _ _
    have s8 := s7.fr0 f8
    have hB6 := s6.2.2.1.size
    have hB7 := s7.2.2.1.size
    have r8 : RowsAt W.heap.size (w7.alloc (.cells ⟨[.slice A7 (zonesOf T 0).length c7]⟩ 31)) (some ⟨w7.heap.size, 0, none⟩) 1 1 (lst T) := by
      refine ⟨_, (Own.lit w7 31 1 1 [.slice A7 (zonesOf T 0).length c7] rfl (by simp [maxLen])).mono fun k hk h => ⟨by omega, hk⟩, fun i hi => ?_⟩
      have : i = 0 := by omega
      subst this
      exact ⟨A7, c7, rfl, (o7.fr f8 fun _ _ _ h => h).mono fun k hk h => ⟨Nat.le_trans hB6 h.1, hk⟩⟩
    refine ⟨fun s w' => ∃ r : Nat, s.2.1 = (r : Int) ∧ r ≤ 8 ∧ s.1.2.1 = r + 1 ∧ St W w' t m T (met T 0 0) ∧ RowsAt W.heap.size w' s.1.1 s.1.2.2 (r + 1) (lst T), fun s _ => 8 - s.2.1.toNat, ⟨0, rfl, by omega, rfl, s8, r8⟩, ?_⟩
    rintro J ⟨⟨A9, l9, c9⟩, i9, ⟨⟩⟩ w9 ⟨r, hi, hr, hl9, s9, r9⟩
    dsimp only at hi hl9 r9 ⊢
    subst hi hl9
    refine cD (fun hlt => ?_) (fun hlt => ?_)
    · refine (of_ok s9.1 r).use ?_
      rintro v w10 ⟨A10, c10, rfl, o10, f10⟩
      refine ⟨_, _, _, rfl, ?_⟩
      have e : robots T r = lst T (r + 1) := by unfold robots lst; rw [if_pos (by omega)]; rfl
      have hB9 := s9.2.2.1.size
      rw [e] at o10 ⊢
      obtain ⟨A11, c11, w11, r11, o11, f11, g11⟩ := (r9.fr0 f10).push (Nat.le_trans hB9 f10.size) (by omega) (o10.mono fun k hk h => ⟨Nat.le_trans hB9 h.1, hk⟩)
      have s10 := s9.fr0 f10
      rw [IntWalk.i64_in ((r : Int) + 1) (by omega)]
      refine ⟨A11, _, c11, w11, r11, ⟨r + 1, rfl, by omega, rfl, ⟨s10.1.fr f11 (s10.1.1.notTy (by decide)), s10.2.1.fr f11 (s10.2.1.notTy (by decide)), s10.2.2.1.trans' g11, s10.2.2.2⟩, o11⟩, by dsimp only; omega⟩
    · have : r = 8 := by omega
      subst this
      refine once_lists s9 r9 (by omega) fun w' s' => ?_
      exact ⟨⟨n + 1, T, rfl, by omega, s'.2.2.1, s'.1⟩, by dsimp only; omega⟩
  · exact ⟨rfl, g3.top⟩
end
end Go.Proofs
