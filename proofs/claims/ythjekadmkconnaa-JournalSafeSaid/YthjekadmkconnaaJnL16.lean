/- Laws of journals: whenever the power fails. -/
import Derived.Test.YthjekadmkconnaaJnJ16
set_option linter.unusedVariables false
namespace Go.Proofs
open Go Go.Eng
theorem Eac : ElT Try.prog 38 41 3 40 := elT_of (by kernel_rfl)
/-- An act, and where its bytes lie. -/
abbrev En := Act × (Option Addr × Nat)
def en3 (e : En) : List Value := [.int .u8 e.1.1, .slice e.2.1 e.1.2.1.length e.2.2, .int .i64 e.1.2.2]
theorem en3_len (e : En) : (en3 e).length = 3 := rfl
theorem en3_one (e : En) : ∀ u ∈ en3 e, u.oneCell' = true := by
  intro u hu
  simp only [en3, List.mem_cons, List.not_mem_nil, or_false] at hu
  rcases hu with rfl | rfl | rfl <;> rfl
def EnOk (w : World) (B : Nat) (e : En) : Prop := Rd w (fun k => k < B) e.2.1 (bvs e.1.2.1) ∧ e.1.2.1.length ≤ e.2.2 ∧ 0 ≤ e.1.1 ∧ e.1.1 < 256 ∧ e.1.2.2 ≤ 9223372036854775807 ∧ e.1.2.1.length ≤ 10000
theorem EnOk.bel {w w' : World} {B : Nat} {e : En} (h : EnOk w B e) (g : Bel B w w') : EnOk w' B e := ⟨h.1.fr g fun k _ hk ho => by have : B ≤ k := ho; omega, h.2⟩
theorem acts_cells {w : World} {B : Nat} {A : Option Addr} {bs : List Act} (h : RowAt B 3 (ActQ w B) A bs) (hs : ∀ x ∈ bs, x.2.1.length ≤ 10000) : ∃ es : List En, es.length = bs.length ∧ Rd w (fun k => k < B) A (rws en3 es) ∧ ∀ e ∈ es, EnOk w B e := by
  obtain ⟨es, hl, he⟩ := exists_list (R := fun i (e : En) => EnOk w B e ∧ ∃ a, A = some a ∧ a.block < B ∧ w.cell? (a.add (i * 3)) = some (.int .u8 e.1.1) ∧ w.cell? ((a.add (i * 3)).add 1) = some (.slice e.2.1 e.1.2.1.length e.2.2) ∧ w.cell? ((a.add (i * 3)).add 2) = some (.int .i64 e.1.2.2)) bs.length (fun i hi => by
    have hx : bs[i]? = some bs[i] := List.getElem?_eq_getElem hi
    obtain ⟨a, ha, hb, A', c', q1, q2, q3, q4, q5, q6, q7, q8, q9⟩ := h i _ hx
    exact ⟨(bs[i], (A', c')), ⟨q4, q9, q5, q6, q8, hs _ (List.mem_of_getElem? hx)⟩, a, ha, hb, q1, q2, q3⟩)
  refine ⟨es, hl, ?_, fun e hm => ?_⟩
  · cases hes : es with
    | nil => exact .inl rfl
    | cons z zs =>
      rw [← hes]
      obtain ⟨_, a, ha, hb, _⟩ := he 0 z (by rw [hes]; rfl)
      refine .inr ⟨a, ha, hb, fun j v hv => ?_⟩
      have hj := (List.getElem?_eq_some_iff.1 hv).1
      rw [rws_length en3_len] at hj
      have hi : j / 3 < es.length := (Nat.div_lt_iff_lt_mul (by decide)).2 hj
      have hx : es[j / 3]? = some es[j / 3] := List.getElem?_eq_getElem hi
      obtain ⟨_, a', ha', _, q1, q2, q3⟩ := he (j / 3) _ hx
      rw [ha] at ha'
      cases ha'
      have e := rws_get en3_len hx (j := j % 3) (Nat.mod_lt _ (by decide))
      have hd : j / 3 * 3 + j % 3 = j := Nat.div_add_mod' j 3
      rw [hd, hv] at e
      have hr : j % 3 = 0 ∨ j % 3 = 1 ∨ j % 3 = 2 := by omega
      rcases hr with hr | hr | hr
      · rw [hr] at e hd
        rw [← hd, Nat.add_zero, q1]
        exact e.symm
      · rw [hr] at e hd
        rw [← hd, ← add_add, q2]
        exact e.symm
      · rw [hr] at e hd
        rw [← hd, ← add_add, q3]
        exact e.symm
  · obtain ⟨i, hi, rfl⟩ := List.mem_iff_getElem.1 hm
    exact (he i _ (List.getElem?_eq_getElem hi)).1
/-- How much of frames is there. -/
theorem whole {l : List Bs} {m : Nat} : ∀ N, N ≤ l.length → ∃ n, n ≤ N ∧ (frames (l.take n)).length ≤ m ∧ (n = N ∨ m < (frames (l.take (n + 1))).length)
  | 0, _ => ⟨0, Nat.le_refl _, by simp [frames], .inl rfl⟩
  | N + 1, h => by
    obtain ⟨n, h1, h2, h3⟩ := whole (l := l) (m := m) N (by omega)
    rcases h3 with h3 | h3
    · subst h3
      by_cases hm : (frames (l.take (n + 1))).length ≤ m
      · exact ⟨n + 1, Nat.le_refl _, hm, .inl rfl⟩
      · exact ⟨n, by omega, h2, .inr (by omega)⟩
    · exact ⟨n, by omega, h2, .inr h3⟩
theorem frames_mono_le {l : List Bs} {n m : Nat} (h : n ≤ m) : (frames (l.take n)).length ≤ (frames (l.take m)).length := by
  obtain ⟨u, hu⟩ := frames_mono (xss := l) h
  rw [hu, List.length_append]; omega
/-- What a crash leaves of what was noted. -/
theorem crash_found {l : List Bs} {sf : Nat} {D : Dsk} (hb : D.bs = frames l) (hs : ∀ y ∈ l, y.length ≤ 1000) (hsf : sf ≤ l.length) (hD : D.safe = (frames (l.take sf)).length) (N : Int) :
    ∃ n, sf ≤ n ∧ n ≤ l.length ∧ scanB (crD D N).bs = (l.take n, (frames (l.take n)).length) ∧ opD (crD D N) = ⟨frames (l.take n), (frames (l.take n)).length, false, -1⟩ := by
  have hm : D.safe + kept D N ≤ (frames l).length := by
    have h1 := frames_mono_le (l := l) hsf
    rw [List.take_length] at h1
    unfold kept
    rw [hb]; omega
  obtain ⟨n, h1, h2, h3⟩ := whole (l := l) (m := D.safe + kept D N) l.length (Nat.le_refl _)
  have hcs := cut_scan (xss := l) (N := l.length) (n := n) (k := D.safe + kept D N) (Nat.le_refl _) (by rw [List.take_length]; exact hs) h1 h2 (by rw [List.take_length]; exact hm) h3
  rw [List.take_length] at hcs
  have ebs : (crD D N).bs = (frames l).take (D.safe + kept D N) := by unfold crD; rw [hb]
  have hscan : scanB (crD D N).bs = (l.take n, (frames (l.take n)).length) := by rw [ebs]; exact hcs
  refine ⟨n, ?_, h1, hscan, ?_⟩
  · rcases h3 with h3 | h3
    · omega
    · by_cases h : sf ≤ n
      · exact h
      · have := frames_mono_le (l := l) (show n + 1 ≤ sf by omega)
        omega
  · have e : opD (crD D N) = ⟨(opD (crD D N)).bs, (opD (crD D N)).safe, false, -1⟩ := rfl
    obtain ⟨o1, o2⟩ := opD_bs (crD D N)
    rw [e, o1, o2, hscan]
theorem pw_dead {D : Dsk} (h : pwE D ≠ 0) : (pwD D).dead = true := by
  unfold pwE pwD at *
  split
  · rename_i hd; exact hd
  · rename_i hd
    rw [if_neg hd] at h
    split
    · rfl
    · rename_i hf; rw [if_neg hf] at h; exact absurd rfl h
theorem note_zero {D : Dsk} {xs : Bs} (h : ntE D xs = 0) : xs.length ≤ 1000 ∧ (ntD D xs).bs = D.bs ++ framed xs ∧ (ntD D xs).safe = D.safe := by
  unfold ntE at h
  split at h
  · rename_i hl
    refine ⟨hl, ?_⟩
    have e : ntD D xs = { pwD D with bs := D.bs ++ framed xs } := by unfold ntD apD; rw [if_pos hl, if_pos h]
    rw [e]
    exact ⟨rfl, (pw_bs D).2⟩
  · cases h
theorem note_bad {D : Dsk} {xs : Bs} (h : ¬ ntE D xs = 0) (hb : D.bs.length ≤ 1000000) : (ntE D xs = 4 ∧ 1000 < xs.length ∧ ntD D xs = D) ∨ (ntE D xs = 5 ∧ (ntD D xs).dead = true ∧ (ntD D xs).bs = D.bs ∧ (ntD D xs).safe = D.safe) := by
  by_cases hl : xs.length ≤ 1000
  · have e1 : ntE D xs = apE D (framed xs) := if_pos hl
    have e2 : ntD D xs = apD D (framed xs) := if_pos hl
    rw [e1] at h ⊢
    rw [e2]
    have hf := framed_length xs
    have hp : pwE D ≠ 0 := by
      intro hp
      apply h
      unfold apE
      rw [hp, if_neg (by simp), if_neg (by omega)]
    have e3 : apE D (framed xs) = 5 := by unfold apE; rw [if_pos hp]; exact pw5 hp
    have e4 : apD D (framed xs) = pwD D := if_neg h
    rw [e4]
    exact .inr ⟨e3, pw_dead hp, (pw_bs D).1, (pw_bs D).2⟩
  · exact .inl ⟨if_neg hl, by omega, if_neg hl⟩
theorem offA {K' KA : Nat → Prop} {B : Nat} {w w' : World} {A : Option Addr} {c : Nat} {l : List Bs} (hK : ∀ k, KA k → K' k) (h : AllAt KA B w A c l) (f : Fr (offK K' B) w w') : AllAt KA B w' A c l := h.fr f fun k _ hk ho => by
  rcases hk with hk | hk
  · exact ho.2 (hK k hk)
  · have := ho.1; omega
/-- A list, cut off. -/
theorem AllAt.cut {K : Nat → Prop} {B : Nat} {w : World} {A : Option Addr} {c : Nat} {l : List Bs} (h : AllAt K B w A c l) {n : Nat} (hn : n ≤ l.length) : AllAt K B w A n (l.take n) := by
  obtain ⟨o1, o2, vs, h1, h2, h3, h4, h5⟩ := h
  have hl : (l.take n).length = n := by rw [List.length_take]; omega
  refine ⟨o1, o2, vs.take n, .inr ⟨hl.symm, ?_⟩, ⟨by rw [List.length_take, List.length_take, h2.1], fun i ys hi => ?_⟩, h3, h4, h5⟩
  · rcases h1 with h | h
    · exact h.rd.take n
    · exact h.2.take n
  · rw [List.getElem?_take] at hi
    split at hi
    · rename_i hlt
      obtain ⟨Aq, cq, k1, k2⟩ := h2.2 i ys hi
      exact ⟨Aq, cq, by rw [List.getElem?_take, if_pos hlt]; exact k1, k2⟩
    · cases hi
section
variable {W : World} {A : Option Addr} {c l : Nat} {al : List Act}
/-- Between two acts. -/
def Fall (B : Nat) (w0 : World) (d n1 : Nat) (KL : Nat → Prop) (s : (Option Addr) × (Option Addr × Nat × Nat) × (Int) × (Int) × Unit) (w' : World) : Prop :=
  ∃ (K KA : Nat → Prop) (i j sf : Nat) (D : Dsk) (a : List Bs), s.1 = some ⟨j, 0, none⟩ ∧ s.2.1.2.1 = a.length ∧ s.2.2.1 = (sf : Int) ∧ s.2.2.2.1 = (i : Int) ∧ i ≤ n1 ∧ JnK K B w' j d D a.length ∧ AllAt KA B w' s.2.1.1 s.2.1.2.2 a ∧ ((∀ k, K k → B ≤ k) ∧ (∀ k, KA k → K k) ∧ (∀ k, KL k → K k) ∧ (∀ k, KA k → ¬ KL k)) ∧
    (Bel B w0 w' ∧ Fr (fun k => ¬ KL k) w0 w') ∧ D.bs = frames a ∧ (∀ y ∈ a, y.length ≤ 1000) ∧ sf ≤ a.length ∧ D.safe = (frames (a.take sf)).length ∧ a.length ≤ i
def two1 : En := ((3, [], 2), (none, 0))
def two2 : En := ((3, [], 0), (none, 0))
theorem journalCrashes_ok (h : RowAt W.heap.size 3 (ActQ W W.heap.size) A al) (hl : al.length = l) (hc : l ≤ c) : Ret Try.prog 5 [.slice A l c] W (Done W) := by
  apply S5_calls
  refine (shown_ok W).use ?_
  rintro v w1 ⟨rfl, f1⟩
  refine ⟨_, rfl, ?_⟩
  refine (DkK.new (K := fun _ => False) (B := W.heap.size) f1.size (fun _ h => h.elim)).use ?_
  rintro v w2 ⟨rfl, h2, f2⟩
  have hd : W.heap.size ≤ w1.heap.size := f1.size
  generalize w1.heap.size = d at h2 hd ⊢
  refine ⟨_, rfl, ?_⟩
  refine (open0 h2).use ?_
  rintro v w3 ⟨j, A3, c3, rfl, h3, f3⟩
  have g3 : Bel W.heap.size W w3 := f1.bel0.trans' (f2.bel0.trans' (offK_bel f3))
  refine ⟨_, _, _, _, _, rfl, cF rfl (cF rfl ?_)⟩
  -- the acts
  have fz : Fr none1 w3 (w3.alloc (.cells ⟨[]⟩ 41)) := Fr.alloc _ _
  have row : ∀ {u}, Bel W.heap.size W u → RowAt W.heap.size 3 (ActQ u W.heap.size) A al := fun g j x hx => by
    obtain ⟨a, ha, hb, hq⟩ := h j x hx
    exact ⟨a, ha, hb, hq.fr (Nat.le_refl _) (by rw [add_block]; exact hb) g⟩
  unfold S5_k1
  refine (few_ok (row (g3.trans' fz.bel0)) hl hc).use ?_
  rintro v wz ⟨rfl, n1, d1, bs, rfl, hbl, hn1, hrow, hsmall⟩
  refine ⟨_, _, _, rfl, ?_⟩
  obtain ⟨es, hes, hrd, heo⟩ := acts_cells hrow hsmall
  have hnl : (rws en3 es).length = n1 * 3 := by rw [rws_length en3_len, hes, hbl]
  have hone : ∀ (l : List En), ∀ u ∈ rws en3 l, u.oneCell' = true := fun l u hu => by
    unfold rws at hu
    obtain ⟨e, _, h2⟩ := List.mem_flatMap.1 hu
    exact en3_one e u h2
  have lit := Own.lit w3 41 3 0 [] (by simp) (by simp)
  obtain ⟨A4, c4, w4, r4, o4, f4, _⟩ := run_append (ty := 38) (m := n1) (c2 := d1) Eac lit hnl hrd (hone es) (by omega) (by simp only [maxLen]; omega)
  rw [Nat.zero_add] at r4 o4
  rw [List.nil_append] at o4
  have f34 : Fr none1 w3 w4 := fz.trans f4 fun k hk ⟨a, ha, e⟩ => by cases ha; simp only at e; omega
  have hz : w3.heap.size < (w3.alloc (.cells ⟨[]⟩ 41)).heap.size := (Blk.new w3 41 []).lt
  refine ⟨A4, _, c4, w4, r4, ?_⟩
  have fz2 : Fr none1 w4 (w4.alloc (.cells ⟨rws en3 [two1, two2]⟩ 41)) := Fr.alloc _ _
  have lit2 := Own.lit w4 41 3 2 (rws en3 [two1, two2]) rfl (by simp [maxLen])
  have o4' := (o4.mono (ok' := fun k => w3.heap.size ≤ k ∧ k < w4.heap.size) fun k hk h => ⟨by rcases h with h | h <;> omega, hk⟩).fr fz2 fun _ _ _ h => h
  obtain ⟨A5, c5, w5, r5, o5, f5, _⟩ := run_append (ty := 38) (m := 2) (c2 := 2) Eac o4' (rfl : (rws en3 [two1, two2]).length = 2 * 3) lit2.rd (hone _) (by omega) (by simp only [maxLen]; omega)
  refine ⟨A5, _, c5, w5, r5, ?_⟩
  rw [← rws_append] at o5
  have hs34 := f34.size
  have hs4z := fz2.size
  have f45 : Fr (fun k => w3.heap.size ≤ k) w4 w5 := (fz2.mono fun _ _ h => h.elim).trans' (f5.mono fun k _ ⟨a, ha, e⟩ => e ▸ (o4'.has a ha).1.1)
  have f35 : Fr none1 w3 w5 := f34.trans f45 fun k hk h => by omega
  have g5 := g3.trans' f35.bel0
  have hB3 : W.heap.size ≤ w3.heap.size := g3.size
  have hs5 := f35.size
  obtain ⟨KL, hKL⟩ : ∃ KL : Nat → Prop, KL = fun k => w3.heap.size ≤ k ∧ k < w5.heap.size := ⟨_, rfl⟩
  have oL : Own w5 41 3 KL A5 (n1 + 2) c5 (rws en3 (es ++ [two1, two2])) := o5.mono fun k hk h => by
    rw [hKL]
    exact ⟨by rcases h with h | h <;> omega, hk⟩
  have h5 : JnK KL W.heap.size w5 j d ⟨[], 0, false, -1⟩ 0 := (h3.grow f35 fun _ _ h => h.elim).shrink fun k hk => by rw [hKL] at hk; exact .inr hk
  have hKLlt : ∀ k, KL k → k < w5.heap.size := fun k hk => by rw [hKL] at hk; exact hk.2
  have hKLB : ∀ k, KL k → W.heap.size ≤ k := fun k hk => by rw [hKL] at hk; omega
  have heo5 : ∀ e ∈ es ++ [two1, two2], EnOk w5 W.heap.size e := fun e he => by
    rcases List.mem_append.1 he with he | he
    · refine (heo e he).bel ?_
      refine (Fr.bel (F := fun k => w3.heap.size ≤ k) (w := w3.alloc (.cells ⟨[]⟩ 41)) (w' := w5) (?_) fun k hk => Nat.le_trans hB3 hk)
      exact (f4.mono fun k _ ⟨a, ha, e⟩ => by cases ha; simp only at e; omega).trans' f45
    · simp only [List.mem_cons, List.not_mem_nil, or_false] at he
      rcases he with rfl | rfl
      · exact ⟨.inl rfl, Nat.le_refl _, by decide, by decide, by decide, by decide⟩
      · exact ⟨.inl rfl, Nat.le_refl _, by decide, by decide, by decide, by decide⟩
  have hlen2 : (es ++ [two1, two2]).length = n1 + 2 := by rw [List.length_append, hes, hbl]; rfl
  generalize es ++ [two1, two2] = ls at oL heo5 hlen2
  clear hKL
  refine ⟨fun s w' => Fall W.heap.size w5 d (n1 + 2) KL s w', fun s _ => n1 + 2 - s.2.2.2.1.toNat, ⟨KL, fun _ => False, 0, j, 0, _, [], rfl, rfl, rfl, rfl, Nat.zero_le _, h5, AllAt.nil _ _ _, ⟨hKLB, fun _ h => h.elim, fun _ h => h, fun _ h => h.elim⟩, ⟨Fr.refl _ _, Fr.refl _ _⟩, rfl, by simp, Nat.le_refl _, rfl, Nat.le_refl _⟩, ?_⟩
  rintro J ⟨jj, ⟨A6, l6, c6⟩, sf', ii, ⟨⟩⟩ w6 ⟨K, KA, i, j, sf, D, a, ej, el, es', ei, hi, h6, a6, ⟨hKB, hAK, hLK, hAL⟩, ⟨g56, f56⟩, hDb, hsm, hsf, hDs, hai⟩
  dsimp only at ej el es' ei a6 ⊢
  subst ej el es' ei
  have gW6 := g5.trans' g56
  refine cD (fun hlt => ?_) (fun hlt => ⟨rfl, gW6.top⟩)
  have hi' : i < n1 + 2 := by have : (i : Int) < ((n1 + 2 : Nat) : Int) := hlt; omega
  have hx : ls[i]? = some ls[i] := List.getElem?_eq_getElem (by omega)
  have heok := (heo5 _ (List.mem_of_getElem? hx)).bel g56
  have o6 := oL.fr f56 fun k _ hk ho => ho hk
  generalize ls[i] = e at hx heok
  have q0 := rws_get en3_len hx (j := 0) (by decide)
  have q1 := rws_get en3_len hx (j := 1) (by decide)
  have q2 := rws_get en3_len hx (j := 2) (by decide)
  obtain ⟨t, hA5, hK5, p0⟩ := o6.rd.at (q0.trans rfl)
  obtain ⟨t1, hA5', _, p1⟩ := o6.rd.at (q1.trans rfl)
  obtain ⟨t2, hA5'', _, p2⟩ := o6.rd.at (q2.trans rfl)
  rw [hA5] at hA5' hA5''
  cases hA5'
  cases hA5''
  rw [Nat.add_zero] at p0
  rw [← add_add] at p1 p2
  obtain ⟨⟨x1, xs, x3⟩, ⟨Ax, cx⟩⟩ := e
  simp only at p0 p1 p2
  obtain ⟨r6, hcx, x10, x1256, x3m, hxl⟩ := heok
  simp only at r6 hcx x10 x1256 x3m hxl
  refine ⟨t, hA5, by omega, by omega, x1, by rw [Int.toNat_natCast]; exact p0, Ax, _, cx, by rw [Int.toNat_natCast]; exact p1, x3, by rw [Int.toNat_natCast]; exact p2, ?_⟩
  clear p0 p1 p2 q0 q1 q2
  obtain ⟨p1, p2, p3, p4, p5, p6, b7, f7⟩ := cp3 w6 41 (.int .u8 0) (.slice none 0 0) (.int .i64 0) (.int .u8 x1) (.slice Ax xs.length cx) (.int .i64 x3)
  refine ⟨p1, p2, p3, p4, p5, p6, ?_⟩
  have hpl := b7.lt
  generalize hw7 : World.setCell _ _ _ = w7 at b7 f7 hpl ⊢
  clear hw7 p1 p2 p3 p4 p5 p6
  have h7 := h6.grow f7 fun _ _ h => h.elim
  generalize hKe : (fun k => K k ∨ (w6.heap.size ≤ k ∧ k < w7.heap.size)) = K' at h7
  have hKp : K' w6.heap.size := by rw [← hKe]; exact .inr ⟨Nat.le_refl _, hpl⟩
  have hBw6 : W.heap.size ≤ w6.heap.size := gW6.size
  have hKB' : ∀ k, K' k → W.heap.size ≤ k := fun k hk => by
    rw [← hKe] at hk
    rcases hk with hk | hk
    · exact hKB k hk
    · omega
  have hAK' : ∀ k, KA k → K' k := fun k hk => by rw [← hKe]; exact .inl (hAK k hk)
  have hLK' : ∀ k, KL k → K' k := fun k hk => by rw [← hKe]; exact .inl (hLK k hk)
  have hApn : ¬ KA w6.heap.size := fun hk => by have := h6.2.1.2.1 _ (.inl (hAK _ hk)); omega
  clear hKe
  generalize w6.heap.size = p at b7 hKp hApn hpl ⊢
  have a7 := a6.fr0 f7
  have g7 := g56.trans' f7.bel0
  have k7 : Fr (fun k => ¬ KL k) w5 w7 := f56.trans' (f7.mono fun _ _ h => h.elim)
  have r7 := r6.fr f7 fun _ _ _ h => h
  have hdok := h7.2.1.1.dok
  have hfl := frames_le hsm
  have offL : ∀ {u u' : World} {K2 : Nat → Prop}, (∀ k, KL k → K2 k) → Fr (offK K2 W.heap.size) u u' → Fr (fun k => ¬ KL k) u u' := fun hk f => f.mono fun k _ h h2 => h.2 (hk k h2)
  have nextI : IntKind.i64.wrap ((i : Int) + 1) = ((i + 1 : Nat) : Int) := by rw [IntWalk.i64_in _ (by omega)]; rfl
  refine ⟨x1, (b7.cell 0).trans rfl, by decide, cD (fun k0 => ?_) (fun k0 => cD (fun k1 => ?_) (fun k1 => cD (fun k2 => ?_) (fun k2 => cD (fun k3 => ?_) (fun k3 => ?_))))⟩
  · -- a note
    refine ⟨Ax, _, cx, (b7.cell 1).trans rfl, ?_⟩
    refine (note_ok h7 (c := cx) r7 (by omega) (by omega)).use ?_
    rintro v w8 ⟨rfl, h8, f8⟩
    have b8 := b7.fr f8 fun hk => hk.2 hKp
    have r8 := r7.fr f8 fun k _ hk ho => by have := ho.1; omega
    have a8 := offA hAK' a7 f8
    have g8 := g7.trans' (offK_bel f8)
    have k8 := k7.trans' (offL hLK' f8)
    refine ⟨_, rfl, cD (fun he => ?_) (fun he => ?_)⟩
    · obtain ⟨x1000, d1', d2'⟩ := note_zero he
      obtain ⟨A9, c9, w9, r9, a9, f9⟩ := a8.snoc h8.2.1.2.2 r8 hcx (fun k hk => hKB' k (hAK' k hk)) (by omega)
      refine ⟨Ax, _, cx, (b8.cell 1).trans rfl, A9, _, c9, w9, r9, cF (by rw [he]; rfl) (cF rfl ?_)⟩
      rw [nextI]
      have hn8 : ntN D xs a.length = (a ++ [xs]).length := by unfold ntN; rw [if_pos he]; simp
      rw [hn8] at h8
      have k9 : Fr (fun k => ¬ KL k) w8 w9 := f9.mono fun k _ hk => hAL k hk
      refine ⟨⟨fun k => K' k ∨ (w8.heap.size ≤ k ∧ k < w9.heap.size), fun k => KA k ∨ (w8.heap.size ≤ k ∧ k < w9.heap.size), i + 1, j, sf, _, a ++ [xs], rfl, by simp, rfl, rfl, by omega, h8.grow f9 fun k _ hk => .inl (hAK' k hk), a9, ⟨fun k hk => ?_, fun k hk => hk.imp (hAK' k) id, fun k hk => .inl (hLK' k hk), fun k hk hL => ?_⟩, ⟨g8.trans' (f9.bel fun k hk => hKB' k (hAK' k hk)), k8.trans' k9⟩, ?_, fun y hy => ?_, by simp; omega, ?_, by simp; omega⟩, by dsimp only; omega⟩
      · rcases hk with hk | hk
        · exact hKB' k hk
        · have := g5.size; have := g8.size; omega
      · rcases hk with hk | hk
        · exact hAL k hk hL
        · have := hKLlt k hL; have := g8.size; omega
      · rw [d1', hDb, frames_snoc]
      · rcases List.mem_append.1 hy with hy | hy
        · exact hsm y hy
        · rw [List.mem_singleton] at hy; subst hy; exact x1000
      · rw [d2', hDs, List.take_append_of_le_length hsf]
    · have hn8 : ntN D xs a.length = a.length := by unfold ntN; rw [if_neg he]
      rw [hn8] at h8
      have fall : ∀ u, Fr none1 w8 u → (ntD D xs).bs = D.bs → (ntD D xs).safe = D.safe → Fall W.heap.size w5 d (n1 + 2) KL (some ⟨j, 0, none⟩, (A6, a.length, c6), (sf : Int), ((i + 1 : Nat) : Int), ()) u := by
        intro u fu e1 e2
        exact ⟨K', KA, i + 1, j, sf, _, a, rfl, rfl, rfl, rfl, by omega, h8.fr0 fu, a8.fr0 fu, ⟨hKB', hAK', hLK', hAL⟩, ⟨g8.trans' fu.bel0, k8.trans' (fu.mono fun _ _ h => h.elim)⟩, by rw [e1, hDb], hsm, hsf, by rw [e2, hDs], by omega⟩
      rcases note_bad he (by rw [hDb]; omega) with ⟨e4, e1000, eD⟩ | ⟨e5, e6, e7, e8⟩
      · refine cT (by rw [e4]; rfl) (cF (by rw [e4]; rfl) ⟨Ax, _, cx, (b8.cell 1).trans rfl, cF (decide_eq_false (by show ¬ ((xs.length : Nat) : Int) ≤ 1000; omega)) (cF rfl ?_)⟩)
        rw [nextI]
        exact ⟨fall w8 (Fr.refl _ _) (by rw [eD]) (by rw [eD]), by dsimp only; omega⟩
      · refine cT (by rw [e5]; rfl) (cT (by rw [e5]; rfl) (cF (by rw [e5]; rfl) ?_))
        refine (dead_ok h8.2.1.1).use ?_
        rintro v u ⟨rfl, rfl⟩
        refine ⟨_, rfl, cF (by rw [e6]; rfl) ?_⟩
        rw [nextI]
        exact ⟨fall _ (Fr.refl _ _) e7 e8, by dsimp only; omega⟩
  · refine (jsync_ok h7).use ?_
    rintro v w8 ⟨rfl, h8, f8⟩
    have a8 := offA hAK' a7 f8
    have g8 := g7.trans' (offK_bel f8)
    have k8 := k7.trans' (offL hLK' f8)
    obtain ⟨e1, e2⟩ := pw_bs D
    refine ⟨_, rfl, cD (fun he => ?_) (fun he => ?_)⟩
    · rw [nextI]
      have he' : pwE D = 0 := he
      have eD : syD D = { pwD D with safe := D.bs.length } := if_pos he'
      refine ⟨⟨K', KA, i + 1, j, a.length, _, a, rfl, rfl, rfl, rfl, by omega, h8, a8, ⟨hKB', hAK', hLK', hAL⟩, ⟨g8, k8⟩, by rw [eD]; exact e1.trans hDb, hsm, Nat.le_refl _, by rw [eD, List.take_length, hDb], by omega⟩, by dsimp only; omega⟩
    · rw [nextI]
      have he' : ¬ pwE D = 0 := he
      have eD : syD D = pwD D := if_neg he'
      exact ⟨⟨K', KA, i + 1, j, sf, _, a, rfl, rfl, rfl, rfl, by omega, h8, a8, ⟨hKB', hAK', hLK', hAL⟩, ⟨g8, k8⟩, by rw [eD, e1, hDb], hsm, hsf, by rw [eD, e2, hDs], by omega⟩, by dsimp only; omega⟩
  · refine ⟨_, (b7.cell 2).trans rfl, ?_⟩
    refine (h7.disk (Q := fun v => v = _) fun h => h.cut x3 x3m).use ?_
    rintro v w8 ⟨rfl, h8, f8⟩
    have a8 := offA hAK' a7 f8
    have g8 := g7.trans' (offK_bel f8)
    have k8 := k7.trans' (offL hLK' f8)
    rw [nextI]
    have e1 := ctD_bs D x3
    have e2 : (ctD D x3).safe = D.safe := by unfold ctD; split <;> rfl
    exact ⟨rfl, ⟨K', KA, i + 1, j, sf, _, a, rfl, rfl, rfl, rfl, by omega, h8, a8, ⟨hKB', hAK', hLK', hAL⟩, ⟨g8, k8⟩, by rw [e1, hDb], hsm, hsf, by rw [e2, hDs], by omega⟩, by dsimp only; omega⟩
  · refine ⟨_, (b7.cell 2).trans rfl, ?_⟩
    refine (h7.disk (Q := fun v => v = _) fun h => h.crash x3).use ?_
    rintro v w8 ⟨rfl, h8, f8⟩
    have a8 := offA hAK' a7 f8
    have g8 := g7.trans' (offK_bel f8)
    have k8 := k7.trans' (offL hLK' f8)
    obtain ⟨n, n1', n2', hscan, hop⟩ := crash_found hDb hsm hsf hDs x3
    have hcl := cr_len D x3
    refine ⟨rfl, ?_⟩
    refine (open_ok h8.2.1 (live_crash D x3) (by rw [hDb] at hcl; omega)).use ?_
    rintro v w9 ⟨j9, hi9, A9, c9, rfl, fo9, h9, f9, hh1, hh2⟩
    have hB8 : W.heap.size ≤ w8.heap.size := h8.2.1.2.2
    have hj8 := h8.2.2.1
    have a9 := offA (K' := fun k => K' k ∨ k = j) (fun k hk => .inl (hAK' k hk)) a8 f9
    have g9 := g8.trans' (offK_bel f9)
    have k9 := k8.trans' (offL (K2 := fun k => K' k ∨ k = j) (fun k hk => .inl (hLK' k hk)) f9)
    rw [hop] at h9
    simp only [hscan] at fo9 h9 ⊢
    have hln : (a.take n).length = n := by rw [List.length_take]; omega
    have hcl9 := a9.le
    rw [hln] at h9 ⊢
    refine ⟨_, _, _, _, _, rfl, cF rfl (cF rfl (cF (decide_eq_false (by omega)) (cF (decide_eq_false (by omega)) ⟨by omega, by omega, ?_⟩)))⟩
    rw [Int.toNat_natCast, Nat.sub_zero, Nat.sub_zero, slAddr_zero]
    have hsame := same_ok (c1 := c9) (c2 := c6) fo9.rs (a9.rs.take n) (by simp only [maxLen]; omega)
    rw [hln] at hsame
    refine hsame.use ?_
    rintro v w10 ⟨rfl, f10⟩
    rw [decide_eq_true rfl]
    refine ⟨_, rfl, cF rfl ?_⟩
    have h10 := h9.fr0 f10
    refine (jlen_ok h10).use ?_
    rintro v w10 ⟨rfl, rfl⟩
    refine ⟨_, rfl, cF (by simp) ⟨by omega, by omega, by omega, by omega, ?_⟩⟩
    rw [Int.toNat_natCast, Nat.sub_zero, slAddr_zero, nextI]
    have fd : Fr none1 w10 w10.drew := Fr.drew w10
    have f10d := f10.trans' fd
    have a10 := (a9.fr0 f10d).cut n2'
    refine ⟨⟨fun k => (K' k ∨ k = j) ∨ (w8.heap.size ≤ k ∧ k < hi9), KA, i + 1, j9, n, _, a.take n, rfl, hln.symm, rfl, rfl, by omega, by rw [hln]; exact h10.fr0 fd, a10, ⟨fun k hk => ?_, fun k hk => Or.inl (Or.inl (hAK' k hk)), fun k hk => Or.inl (Or.inl (hLK' k hk)), hAL⟩, ⟨g9.trans' f10d.bel0, k9.trans' (f10d.mono fun _ _ h => h.elim)⟩, rfl, fun y hy => hsm y (List.mem_of_mem_take hy), by omega, by simp only; rw [List.take_take, Nat.min_self], by omega⟩, by dsimp only; omega⟩
    rcases hk with (hk | hk) | hk
    · exact hKB' k hk
    · subst hk; exact hj8
    · omega
  · rw [nextI]
    exact ⟨⟨K', KA, i + 1, j, sf, _, a, rfl, rfl, rfl, rfl, by omega, h7, a7, ⟨hKB', hAK', hLK', hAL⟩, ⟨g7, k7⟩, hDb, hsm, hsf, hDs, by omega⟩, by dsimp only; omega⟩
end
end Go.Proofs
