import Derived.Test.YtgcffkjnacmpjaaLockD
set_option linter.unusedVariables false
namespace Go.Proofs
open Go Go.Eng
theorem E45 : ElT Try.prog 45 31 1 24 := elT_of (by kernel_rfl)
/-- Rows of rows: what n robots hold. -/
def OfAt (B : Nat) (w : World) (A : Option Addr) (c n : Nat) (T : Tab) : Prop :=
  ∃ vs, Own w 31 1 (bw B w) A n c vs ∧ ∀ i, i < n → ∃ Ai ci, vs[i]? = some (.slice Ai (robots T i).length ci) ∧ Own w 3 1 (bw B w) Ai (robots T i).length ci (ints (robots T i))
theorem OfAt.frT {B : Nat} {w w' : World} {A : Option Addr} {c n : Nat} {T : Tab} {F : Nat → Prop} (h : OfAt B w A c n T) (hf : Fr F w w') (hF : ∀ k, k < w.heap.size → F k → ¬ hasTy w [31, 3] k) : OfAt B w' A c n T := by
  obtain ⟨vs, o, hv⟩ := h
  refine ⟨vs, (o.fr1 hf fun a ha hk => hF _ (o.has a ha).2 hk (by obtain ⟨cur, hc⟩ := o.obj a ha; exact ⟨cur, 31, hc, by decide⟩)).mono fun k hk h => ⟨h.1, hk⟩, fun i hi => ?_⟩
  obtain ⟨Ai, ci, h1, h2⟩ := hv i hi
  exact ⟨Ai, ci, h1, (h2.fr1 hf fun a ha hk => hF _ (h2.has a ha).2 hk (by obtain ⟨cur, hc⟩ := h2.obj a ha; exact ⟨cur, 3, hc, by decide⟩)).mono fun k hk h => ⟨h.1, hk⟩⟩
theorem OfAt.fr0 {B : Nat} {w w' : World} {A : Option Addr} {c n : Nat} {T : Tab} (h : OfAt B w A c n T) (hf : Fr none1 w w') : OfAt B w' A c n T := h.frT hf fun k _ h => h.elim
theorem tbF_no {w : World} {t : Nat} {T : Tab} (h : TabAt w t T) {ts : List Nat} (hts : 48 ∉ ts) : ∀ k, k < w.heap.size → tbF t k → ¬ hasTy w ts k := fun k _ e => by
  have e : k = t := e
  subst e; exact h.1.notTy hts
/-- A zone that was free, given and taken back. -/
theorem back_tab (T : Tab) (r z : Int) (h : owned T z = false) (he : holdE T r z = 0) : ownR (holdT T r z) z = r ∧ owned (holdT T r z) z = true ∧ relE (holdT T r z) r z = 0 ∧ ∀ i, relT (holdT T r z) r z i = T i := by
  have hv : valid r z := by unfold holdE at he; split at he; assumption; omega
  obtain ⟨h0, h1, h2, h3⟩ := hv
  have hz : T z.toNat = 0 := by
    simp [owned] at h; exact h h2 h3
  have e1 : holdT T r z z.toNat = r + 1 := by unfold holdT; rw [if_pos he]; simp [upd]
  have e2 : owned (holdT T r z) z = true := by simp [owned, e1]; omega
  have e3 : relE (holdT T r z) r z = 0 := by unfold relE; rw [if_pos ⟨h0, h1, h2, h3⟩, if_neg (by omega)]
  refine ⟨by simp [ownR, e2, e1], e2, e3, fun i => ?_⟩
  unfold relT holdT
  rw [if_pos (by unfold holdT at e3; exact e3), if_pos he]
  unfold upd
  split
  · subst_vars; exact hz.symm
  · rfl
theorem same_tab (T : Tab) (r z : Int) (h : owned T z = true ∨ holdE T r z ≠ 0) : ∀ i, holdT T r z i = T i := by
  intro i
  unfold holdT
  split
  · rename_i he
    rcases h with h | h
    · unfold holdE at he
      split at he
      · split at he
        · omega
        · simp [owned] at h
          unfold upd; split
          · subst_vars; omega
          · rfl
      · omega
    · exact absurd he h
  · rfl
theorem robots_congr {T T' : Tab} (h : ∀ i, T i = T' i) (r : Int) : robots T r = robots T' r := by
  have : T = T' := funext h
  rw [this]
section
variable {W : World} {t : Nat}
/-- The last loop of LockBack. -/
theorem back_last {w : World} {T T' : Tab} {A Af : Option Addr} {c cf : Nat} (h : TabAt w t T') (hT : ∀ i, T' i = T i) (ho : OfAt W.heap.size w A c 8 T) (hf : Own w 3 1 (fun _ => True) Af (zonesOf T 0).length cf (ints (zonesOf T 0))) (g : Bel W.heap.size W w) :
    S6_k9 true (some ⟨t, 0, none⟩) Af (zonesOf T 0).length cf A 8 c w (Done W) := by
  have eT : T' = T := funext hT
  subst eT
  refine ⟨fun s w' => ∃ n : Nat, s.1 = (n : Int) ∧ n ≤ 8 ∧ Fr none1 w w', fun s _ => 8 - s.1.toNat, ⟨0, rfl, by omega, Fr.refl _ _⟩, ?_⟩
  rintro J ⟨i, ⟨⟩⟩ w1 ⟨n, hi, hn, f1⟩
  dsimp only at hi ⊢
  subst hi
  refine cD (fun hlt => ?_) (fun hlt => ?_)
  · have f2 := f1.trans' (Fr.drew w1)
    have h2 := h.fr f2 (fun h => h)
    obtain ⟨vs, o2, hv⟩ := ho.fr0 f2
    obtain ⟨Ai, ci, e1, e2⟩ := hv n (by omega)
    obtain ⟨a, rfl, _, hc⟩ := o2.rd.at e1
    have fin : ∀ w3, Fr none1 w w3 → S6_k12 true (some ⟨t, 0, none⟩) Af (zonesOf T' 0).length cf (some a) 8 c ((8 : Nat) : Int) (n : Int) (!decide (robots T' n = robots T' n)) w3 (Done W) (fun s' w'' => (∃ m : Nat, s'.1 = (m : Int) ∧ m ≤ 8 ∧ Fr none1 w w'') ∧ 8 - s'.1.toNat < 8 - (n : Int).toNat) := by
      intro w3 f3
      refine cF (by simp) ?_
      rw [IntWalk.i64_in ((n : Int) + 1) (by omega)]
      exact ⟨⟨n + 1, rfl, by omega, f3⟩, by dsimp only; omega⟩
    refine ⟨a, rfl, by omega, by omega, ?_, ?_⟩
    · refine (of_ok h2 n).use ?_
      rintro v w3 ⟨A3, c3, rfl, o3, f3⟩
      have hc3 : w3.cell? (a.add n) = some (.slice Ai (robots T' n).length ci) := by
        obtain ⟨a', ha', _, hc'⟩ := (o2.rd.fr f3 fun _ _ _ h => h).at e1
        cases ha'; exact hc'
      refine ⟨_, _, _, rfl, Ai, (robots T' n).length, ci, by rw [Int.toNat_natCast, Nat.mul_one]; exact hc3, ?_⟩
      · refine (same_ok o3.rd (e2.rd.fr f3 fun _ _ _ h => h) o3.max).use ?_
        rintro v w4 ⟨rfl, f4⟩
        exact ⟨_, rfl, fin w4 ((f2.trans' f3).trans' f4)⟩
    · refine ⟨Ai, _, ci, by rw [Int.toNat_natCast, Nat.mul_one]; exact hc, ?_⟩
      refine (of_ok h2 n).use ?_
      rintro v w3 ⟨A3, c3, rfl, o3, f3⟩
      refine ⟨_, _, _, rfl, ?_⟩
      refine (same_ok o3.rd (e2.rd.fr f3 fun _ _ _ h => h) o3.max).use ?_
      rintro v w4 ⟨rfl, f4⟩
      exact ⟨_, rfl, fin w4 ((f2.trans' f3).trans' f4)⟩
  · refine cT rfl ?_
    refine (free_ok (h.fr f1 fun h => h)).use ?_
    rintro v w2 ⟨A2, c2, rfl, o2, f2⟩
    refine ⟨_, _, _, rfl, ?_⟩
    refine (same_ok o2.rd (hf.rd.fr (f1.trans' f2) fun _ _ _ h => h) o2.max).use ?_
    rintro v w3 ⟨rfl, f3⟩
    exact ⟨_, rfl, by rw [decide_eq_true rfl], ((g.trans' f1.bel0).trans' (f2.trans' f3).bel0).top⟩
theorem lockBack_ok {A : Option Addr} {l c : Nat} {al : List LAct} (h : RowAt W.heap.size 3 (ActQ W) A al) (hl : al.length = l) (hc : l ≤ c) (r z : Int) (hr : inI r) :
    Ret Try.prog 6 [.slice A l c, .int .i64 r, .int .i64 z] W (Done W) := by
  apply S6_calls
  refine (shown_ok _).use ?_
  rintro v w1 ⟨rfl, f1⟩
  refine ⟨_, rfl, ?_⟩
  refine (new_ok w1).use ?_
  rintro v w2 ⟨t, rfl, ht, h2, f2⟩
  have ht : W.heap.size ≤ t := Nat.le_trans f1.size ht
  refine ⟨_, rfl, cF rfl ?_⟩
  have g2 : Bel W.heap.size W w2 := f1.bel0.trans' f2.bel0
  have gt : ∀ {a b : World}, Fr (tbF t) a b → Bel W.heap.size a b := fun f => f.bel fun k hk => hk ▸ ht
  refine (few_ok h hl hc).use ?_
  rintro v w2 ⟨rfl, n1, d1, bs, rfl, hbl, hb300, hrow⟩
  refine ⟨_, _, _, rfl, ?_⟩
  refine ⟨fun s w' => ∃ (n : Nat) (T : Tab), s.1 = (n : Int) ∧ n ≤ n1 ∧ Bel W.heap.size W w' ∧ TabAt w' t T, fun s _ => n1 - s.1.toNat, ⟨0, _, rfl, Nat.zero_le _, g2, h2⟩, ?_⟩
  rintro J ⟨i, ⟨⟩⟩ w3 ⟨n, T, hi, hn, g3, h3⟩
  dsimp only at hi ⊢
  subst hi
  refine cD (fun hlt => ?_) (fun hlt => ?_)
  · have hx : bs[n]? = some bs[n] := List.getElem?_eq_getElem (by omega)
    obtain ⟨a, ha, hab, hq⟩ := hrow n _ hx
    obtain ⟨q1, q2, q3, q4, q5⟩ := hq.fr (Nat.le_refl _) (by rw [add_block]; exact hab) g3
    refine ⟨a, ha, by omega, by omega, _, by rw [Int.toNat_natCast]; exact q1, _, by rw [Int.toNat_natCast]; exact q2, _, by rw [Int.toNat_natCast]; exact q3, ?_⟩
    obtain ⟨p1, p2, p3, p4, p5, p6, b4, f4⟩ := cp3 w3 28 (.bool false) (.int .i64 0) (.int .i64 0) (.bool bs[n].1) (.int .i64 bs[n].2.1) (.int .i64 bs[n].2.2)
    refine ⟨p1, p2, p3, p4, p5, p6, ?_⟩
    generalize World.setCell _ _ _ = w4 at b4 f4 ⊢
    refine ⟨_, by rw [b4.cell]; rfl, _, by rw [b4.cell]; rfl, _, by rw [b4.cell]; rfl, ?_⟩
    refine (does_ok (h3.fr f4 fun h => h) bs[n] q4).use ?_
    rintro v w5 ⟨rfl, h5, f5⟩
    rw [IntWalk.i64_in ((n : Int) + 1) (by omega)]
    exact ⟨_, rfl, ⟨n + 1, _, rfl, by omega, (g3.trans' f4.bel0).trans' (gt f5), h5⟩, by dsimp only; omega⟩
  · refine (free_ok h3).use ?_
    rintro v w4 ⟨Af, cf, rfl, o4, f4⟩
    refine ⟨_, _, _, rfl, ?_⟩
    have hB3 := g3.size
    have hf4 : Own w4 3 1 (bw W.heap.size w4) Af (zonesOf T 0).length cf (ints (zonesOf T 0)) := o4.mono fun k hk h => ⟨Nat.le_trans hB3 h.1, hk⟩
    refine ⟨fun s w' => ∃ m : Nat, s.2.1 = (m : Int) ∧ m ≤ 8 ∧ s.1.2.1 = m ∧ Bel W.heap.size W w' ∧ TabAt w' t T ∧ Own w' 3 1 (fun _ => True) Af (zonesOf T 0).length cf (ints (zonesOf T 0)) ∧ OfAt W.heap.size w' s.1.1 s.1.2.2 m T, fun s _ => 8 - s.2.1.toNat,
      ⟨0, rfl, by omega, rfl, g3.trans' f4.bel0, h3.fr f4 (fun h => h), hf4.mono fun _ _ _ => trivial, [], Own.nil _ _ _ _, fun i hi => by omega⟩, ?_⟩
    rintro J ⟨⟨A5, l5, c5⟩, i5, ⟨⟩⟩ w5 ⟨m, hi, hm, hl5, g5, h5, of5, vs, o5, hv5⟩
    dsimp only at hi hl5 o5 hv5 ⊢
    subst hi hl5
    refine cD (fun hlt => ?_) (fun hlt => ?_)
    · refine (of_ok h5 l5).use ?_
      rintro v w6 ⟨A6, c6, rfl, o6, f6⟩
      refine ⟨_, _, _, rfl, ?_⟩
      have g6 := g5.trans' f6.bel0
      have q5 := ownB o5 f6
      obtain ⟨A7, c7, w7, r7, o7, f7, g7⟩ := app1 (ty := 45) E45 q5 g6.size (.slice A6 (robots T l5).length c6) rfl (by omega) (by simp only [maxLen]; omega)
      have h6 := h5.fr f6 (fun h => h)
      rw [IntWalk.i64_in ((l5 : Int) + 1) (by omega)]
      have f31 : ∀ k, ownAt A5 k → ∀ (hk : k < w6.heap.size), ¬ hasTy w6 [3] k := fun k ⟨a, ha, e⟩ _ => by subst e; exact q5.notTy (by decide) a ha
      refine ⟨A7, _, c7, w7, r7, ⟨l5 + 1, rfl, by omega, rfl, g6.trans' g7, h6.fr f7 (fun ⟨a, ha, e⟩ => q5.ne_blk h6.1 (by decide) a ha e), ?_, _, o7, fun i hi => ?_⟩, by dsimp only; omega⟩
      · have q := of5.fr f6 (fun _ _ _ h => h)
        exact q.fr1 f7 (fun a ha ⟨a', ha', e⟩ => q5.ne_own q (by decide) a' ha' ⟨a, ha, e.symm⟩)
      · by_cases e : i < l5
        · obtain ⟨Ai, ci, e1, e2⟩ := hv5 i e
          refine ⟨Ai, ci, by rw [List.getElem?_append, if_pos (by have := o5.1; omega)]; exact e1, ?_⟩
          have q := ownB e2 f6
          exact (q.fr1 f7 (fun a ha ⟨a', ha', e⟩ => q5.ne_own q (by decide) a' ha' ⟨a, ha, e.symm⟩)).mono fun k hk h => ⟨h.1, hk⟩
        · have : i = l5 := by omega
          subst this
          refine ⟨A6, c6, by rw [List.getElem?_append, if_neg (by have := o5.1; omega)]; have := o5.1; simp [this], ?_⟩
          have q : Own w6 3 1 (bw W.heap.size w6) A6 (robots T i).length c6 (ints (robots T i)) := o6.mono fun k hk h => ⟨Nat.le_trans g5.size h.1, hk⟩
          exact (q.fr1 f7 (fun a ha ⟨a', ha', e⟩ => q5.ne_own q (by decide) a' ha' ⟨a, ha, e.symm⟩)).mono fun k hk h => ⟨h.1, hk⟩
    · have : l5 = 8 := by omega
      subst this
      have ho5 : OfAt W.heap.size w5 A5 c5 8 T := ⟨vs, o5, hv5⟩
      refine (owner_ok h5 z).use ?_
      rintro v w5 ⟨rfl, rfl⟩
      refine ⟨_, _, rfl, ?_⟩
      refine (hold_ok h5 hr (z := z)).use ?_
      rintro v w6 ⟨rfl, h6, f6⟩
      refine ⟨_, rfl, ?_⟩
      have no6 := tbF_no h5 (ts := [31, 3]) (by decide)
      have ho6 := ho5.frT f6 no6
      have of6 := of5.fr1 f6 (fun a ha e => of5.ne_blk h5.1 (by decide) a ha e)
      have g6 := g5.trans' (gt f6)
      refine cB (fun hown => ?_) (fun hown => ?_)
      · simp only [Bool.not_eq_true'] at hown
        refine cD (fun he => ?_) (fun he => ?_)
        · obtain ⟨e1, e2, e3, e4⟩ := back_tab T r z hown he
          refine (owner_ok h6 z).use ?_
          rintro v w6 ⟨rfl, rfl⟩
          refine ⟨_, _, rfl, cF (by simp [e1]) (cF (by simp [e2]) ?_)⟩
          refine (rel_ok h6 hr (z := z)).use ?_
          rintro v w7 ⟨rfl, h7, f7⟩
          refine ⟨_, rfl, cF (by simp [e3]) ?_⟩
          have no7 := tbF_no h6 (ts := [31, 3]) (by decide)
          exact back_last h7 e4 (ho6.frT f7 no7) (of6.fr1 f7 (fun a ha e => of6.ne_blk h6.1 (by decide) a ha e)) (g6.trans' (gt f7))
        · exact back_last h6 (same_tab T r z (.inr he)) ho6 of6 g6
      · simp only [Bool.not_eq_false'] at hown
        exact cF rfl (back_last h6 (same_tab T r z (.inl hown)) ho6 of6 g6)
end
end Go.Proofs
