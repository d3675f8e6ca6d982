/- Records and acts as bits: without the program. -/
import Derived.Test.YtmhjjhpgbafjpaaBitVtop
import Derived.Test.YtmhjjhpgbafjpaaCkB
set_option linter.unusedVariables false
namespace Go.Proofs
open Go Go.Eng
structure Rc where
  k : Int
  i : Int
  r : Int
  p : Int
  c : Int
  q : Int
  deriving DecidableEq
def hasI (k : Int) : Bool := decide (k = 2 ∨ k = 3)
def hasR (k : Int) : Bool := decide (3 ≤ k ∧ k ≤ 5)
def hasM (k : Int) : Bool := decide (k = 1)
def right (x : Rc) : Prop := (1 ≤ x.k ∧ x.k ≤ 5) ∧ (hasI x.k = true ∨ x.i = 0) ∧ (hasR x.k = true ∨ x.r = 0) ∧ (hasM x.k = true ∨ x.p = 0 ∧ x.c = 0 ∧ x.q = 0) ∧ (0 ≤ x.i ∧ x.i ≤ 1073741824) ∧ (0 ≤ x.r ∧ x.r < 8) ∧ (0 ≤ x.p ∧ x.p < 64) ∧ (0 ≤ x.c ∧ x.c < 256) ∧ (0 ≤ x.q ∧ x.q ≤ 5)
instance (x : Rc) : Decidable (right x) := by unfold right; exact inferInstance
def rc0 : Rc := ⟨0, 0, 0, 0, 0, 0⟩
/-- A record's bits. -/
def rb (x : Rc) : List Bool := nb x.k.toNat 3 ++ ((if hasI x.k then cb x.i.toNat else []) ++ ((if hasR x.k then nb x.r.toNat 3 else []) ++ (if hasM x.k then nb x.p.toNat 6 ++ (nb x.c.toNat 8 ++ nb x.q.toNat 3) else [])))
def layV (x : Rc) : Bs × Int := if right x then (pk (rb x), 0) else ([], 1)
/-! ### Reading -/
structure Rd1 where
  v : Nat
  s : Rs
def g1 (s : Rs) (m : Nat) : Rd1 := ⟨getV s (m : Int), getS s (m : Int)⟩
def c1 (s : Rs) : Rd1 := ⟨rcV s, rcS s⟩
def rdI (s : Rs) (k : Int) : Rd1 := if hasI k then c1 s else ⟨0, s⟩
def rdR (s : Rs) (k : Int) : Rd1 := if hasR k then g1 s 3 else ⟨0, s⟩
def rdM (s : Rs) (k : Int) : Nat × Nat × Nat × Rs := if hasM k then ((g1 s 6).v, (g1 (g1 s 6).s 8).v, (g1 (g1 (g1 s 6).s 8).s 3).v, (g1 (g1 (g1 s 6).s 8).s 3).s) else (0, 0, 0, s)
def rdRec (s : Rs) : Rc × Rs :=
  let a := g1 s 3
  let b := rdI a.s (a.v : Int)
  let c := rdR b.s (a.v : Int)
  let d := rdM c.s (a.v : Int)
  (⟨(a.v : Int), ((min b.v 1073741825 : Nat) : Int), (c.v : Int), (d.1 : Int), (d.2.1 : Int), (d.2.2.1 : Int)⟩, d.2.2.2)
def takeV (b : Bs) : Rc × Int := if endV (rdRec ⟨up8 b, 0, 0⟩).2 ≠ 0 ∨ ¬ right (rdRec ⟨up8 b, 0, 0⟩).1 then (rc0, 170) else ((rdRec ⟨up8 b, 0, 0⟩).1, 0)
/-! ### What is laid is read -/
theorem drop_app {L M rest : List Bool} {i : Nat} (h : L.drop i = M ++ rest) : L.drop (i + M.length) = rest := by
  rw [← List.drop_drop, h, List.drop_append_of_le_length (Nat.le_refl _), List.drop_length, List.nil_append]
theorem le_app {L M rest : List Bool} {i : Nat} (h : L.drop i = M ++ rest) (hi : i ≤ L.length) : i + M.length ≤ L.length := by
  have := congrArg List.length h
  rw [List.length_drop, List.length_append] at this
  omega
theorem g1_nb {L rest : List Bool} {i n k : Nat} (h : L.drop i = nb n k ++ rest) (hk : k ≤ 64) (hi : i ≤ L.length) (hn : n < 2 ^ k) : g1 ⟨L, i, 0⟩ k = ⟨n, ⟨L, i + k, 0⟩⟩ := by
  obtain ⟨_, e2, e3⟩ := read_get h hk hi
  unfold g1
  rw [e2, e3, Nat.mod_eq_of_lt hn]
theorem c1_cb {L rest : List Bool} {i x : Nat} (h : L.drop i = cb x ++ rest) (hi : i ≤ L.length) (hx : x + 1 < 2 ^ 64) : c1 ⟨L, i, 0⟩ = ⟨x, ⟨L, i + (cb x).length, 0⟩⟩ := by
  obtain ⟨_, e2, e3⟩ := read_count h hx hi
  unfold c1
  rw [e2, e3]
theorem rdRec_rb {x : Rc} (hx : right x) {L rest : List Bool} (h : L = rb x ++ rest) : rdRec ⟨L, 0, 0⟩ = (x, ⟨L, (rb x).length, 0⟩) := by
  obtain ⟨⟨k1, k2⟩, hi, hr, hm, ⟨i1, i2⟩, ⟨r1, r2⟩, ⟨p1, p2⟩, ⟨c1', c2⟩, ⟨q1, q2⟩⟩ := hx
  have h0 : L.drop 0 = nb x.k.toNat 3 ++ (((if hasI x.k then cb x.i.toNat else []) ++ ((if hasR x.k then nb x.r.toNat 3 else []) ++ (if hasM x.k then nb x.p.toNat 6 ++ (nb x.c.toNat 8 ++ nb x.q.toNat 3) else []))) ++ rest) := by
    rw [List.drop_zero, h, rb, List.append_assoc]
  have ek : ((x.k.toNat : Nat) : Int) = x.k := by omega
  have a := g1_nb h0 (by decide) (Nat.zero_le _) (n := x.k.toNat) (by omega)
  have l0 := le_app h0 (Nat.zero_le _)
  have d0 := drop_app h0
  rw [nb_length] at d0 l0
  -- the number
  have hI : rdI ⟨L, 0 + 3, 0⟩ x.k = ⟨x.i.toNat, ⟨L, 0 + 3 + (if hasI x.k then cb x.i.toNat else []).length, 0⟩⟩ := by
    unfold rdI
    cases hh : hasI x.k with
    | true =>
      rw [hh] at d0
      simp only [if_true] at d0 ⊢
      rw [List.append_assoc] at d0
      exact c1_cb d0 l0 (by omega)
    | false =>
      have : x.i = 0 := by rcases hi with hi | hi; rw [hh] at hi; cases hi; exact hi
      simp [this]
  have d1 := d0
  rw [List.append_assoc] at d1
  have l1 := le_app d1 l0
  have d2 := drop_app d1
  generalize hj : 0 + 3 + (if hasI x.k then cb x.i.toNat else []).length = j at hI d2 l1
  have hR : rdR ⟨L, j, 0⟩ x.k = ⟨x.r.toNat, ⟨L, j + (if hasR x.k then nb x.r.toNat 3 else []).length, 0⟩⟩ := by
    unfold rdR
    cases hh : hasR x.k with
    | true =>
      rw [hh] at d2
      simp only [if_true] at d2 ⊢
      rw [List.append_assoc] at d2
      rw [g1_nb d2 (by decide) l1 (by omega), nb_length]
    | false =>
      have : x.r = 0 := by rcases hr with hr | hr; rw [hh] at hr; cases hr; exact hr
      simp [this]
  have d3 := d2
  rw [List.append_assoc] at d3
  have l3 := le_app d3 l1
  have d4 := drop_app d3
  generalize hj2 : j + (if hasR x.k then nb x.r.toNat 3 else []).length = m at hR d4 l3
  have hM : rdM ⟨L, m, 0⟩ x.k = (x.p.toNat, x.c.toNat, x.q.toNat, ⟨L, m + (if hasM x.k then nb x.p.toNat 6 ++ (nb x.c.toNat 8 ++ nb x.q.toNat 3) else []).length, 0⟩) := by
    unfold rdM
    cases hh : hasM x.k with
    | true =>
      rw [hh] at d4
      simp only [if_true] at d4 ⊢
      rw [List.append_assoc, List.append_assoc] at d4
      have e1 := g1_nb d4 (by decide) l3 (n := x.p.toNat) (by omega)
      have l5 := le_app d4 l3
      have d5 := drop_app d4
      rw [nb_length] at l5 d5
      have e2 := g1_nb d5 (by decide) l5 (n := x.c.toNat) (by omega)
      have l6 := le_app d5 l5
      have d6 := drop_app d5
      rw [nb_length] at l6 d6
      have e3 := g1_nb d6 (by decide) l6 (n := x.q.toNat) (by omega)
      rw [e1, e2, e3]
      simp [nb_length]
    | false =>
      have : x.p = 0 ∧ x.c = 0 ∧ x.q = 0 := by rcases hm with hm | hm; rw [hh] at hm; cases hm; exact hm
      simp [this]
  unfold rdRec
  simp only [a, ek, hI, hR, hM]
  have hlen : (rb x).length = m + (if hasM x.k then nb x.p.toNat 6 ++ (nb x.c.toNat 8 ++ nb x.q.toNat 3) else []).length := by
    rw [rb, List.length_append, List.length_append, List.length_append, nb_length, ← hj2, ← hj]; omega
  rw [hlen]
  refine Prod.ext ?_ rfl
  simp only
  have e1 : ((min x.i.toNat 1073741825 : Nat) : Int) = x.i := by omega
  have e2 : ((x.r.toNat : Nat) : Int) = x.r := by omega
  have e3 : ((x.p.toNat : Nat) : Int) = x.p := by omega
  have e4 : ((x.c.toNat : Nat) : Int) = x.c := by omega
  have e5 : ((x.q.toNat : Nat) : Int) = x.q := by omega
  rw [e1, e2, e3, e4, e5]
theorem take_lay {x : Rc} (hx : right x) : takeV (pk (rb x)) = (x, 0) := by
  have e := rdRec_rb hx (up8_pk (rb x))
  have he := end_pad (L := up8 (pk (rb x))) (i := (rb x).length) (p := 8 * (((rb x).length + 7) / 8) - (rb x).length) (by rw [up8_pk]; rw [List.drop_append_of_le_length (Nat.le_refl _), List.drop_length, List.nil_append]) (by omega) (by rw [up8_length, pk_length]; omega)
  unfold takeV
  rw [e]
  simp only [he.1]
  rw [if_neg]
  rintro (h | h)
  · exact h rfl
  · exact h hx
/-! ### What is read was laid so -/
theorem get_ok0 {s : Rs} {m : Int} (h : (getS s m).E = 0) : getE s m = 0 ∧ s.E = 0 := by
  have e : getE s m = 0 := by
    by_cases hz : getE s m = 0
    · exact hz
    · have : getS s m = ⟨s.L, s.i, getE s m⟩ := if_neg hz
      rw [this] at h; exact h
  refine ⟨e, ?_⟩
  unfold getE at e
  by_cases hE : s.E ≠ 0
  · rw [if_pos hE] at e; exact e
  · simpa using hE
/-- What a reader has taken. -/
def Took (s : Rs) (M : List Bool) (s' : Rs) : Prop := s'.L = s.L ∧ s'.i = s.i + M.length ∧ s'.i ≤ s.L.length ∧ s.L.drop s.i = M ++ s.L.drop s'.i ∧ s.E = 0
theorem g1_took {s : Rs} {m : Nat} (hm : m ≤ 64) (hi : s.i ≤ s.L.length) (h : (g1 s m).s.E = 0) : Took s (nb (g1 s m).v m) (g1 s m).s ∧ (g1 s m).v < 2 ^ m := by
  obtain ⟨e, hE⟩ := get_ok0 (s := s) (m := (m : Int)) h
  have e2 : getS s (m : Int) = ⟨s.L, s.i + m, s.E⟩ := by unfold getS; rw [if_pos e, Int.toNat_natCast]
  have e3 : getV s (m : Int) = vl ((s.L.drop s.i).take m) := by unfold getV; rw [if_pos e, Int.toNat_natCast]
  have hle : s.i + m ≤ s.L.length := by
    unfold getE Rs.left at e
    rw [if_neg (by simpa using hE)] at e
    split at e
    · cases e
    · split at e
      · cases e
      · omega
  have hl : ((s.L.drop s.i).take m).length = m := by rw [List.length_take, List.length_drop]; omega
  have hnb : nb (vl ((s.L.drop s.i).take m)) m = (s.L.drop s.i).take m := by
    have := nb_vl ((s.L.drop s.i).take m)
    rwa [hl] at this
  have hv := vl_lt ((s.L.drop s.i).take m)
  rw [hl] at hv
  unfold g1
  simp only [e2, e3]
  refine ⟨⟨rfl, by simp only [nb_length], hle, ?_, hE⟩, hv⟩
  rw [hnb]
  simp only
  rw [← List.drop_drop, List.take_append_drop]
theorem c1_took {s : Rs} (hi : s.i ≤ s.L.length) (h : (c1 s).s.E = 0) : Took s (cb (c1 s).v) (c1 s).s := by
  have e : rcE s = 0 := by
    by_cases hz : rcE s = 0
    · exact hz
    · have : rcS s = ⟨s.L, s.i, rcE s⟩ := if_neg hz
      have h' : (rcS s).E = 0 := h
      rw [this] at h'; exact h'
  have hh := e
  unfold rcE at hh
  by_cases hE : s.E ≠ 0
  · rw [if_pos hE] at hh; exact absurd hh hE
  rw [if_neg hE] at hh
  have hE0 : s.E = 0 := by simpa using hE
  by_cases h63 : 63 < zs (s.L.drop s.i)
  · rw [if_pos h63] at hh; cases hh
  rw [if_neg h63] at hh
  by_cases hs : s.left < 2 * (zs (s.L.drop s.i) : Int) + 1
  · rw [if_pos hs] at hh; cases hh
  have hs' : ¬ ((s.L.length : Int) - (s.i : Int) < 2 * (zs (s.L.drop s.i) : Int) + 1) := hs
  have e2 : rcS s = ⟨s.L, s.i + (2 * zs (s.L.drop s.i) + 1), s.E⟩ := if_pos e
  have e3 : rcV s = vl ((s.L.drop (s.i + zs (s.L.drop s.i))).take (zs (s.L.drop s.i) + 1)) - 1 := if_pos e
  have hdl : (s.L.drop s.i).length = s.L.length - s.i := List.length_drop
  generalize hz : zs (s.L.drop s.i) = z at *
  have hfalse : (s.L.drop s.i).take z = List.replicate z false := by
    apply List.ext_getElem?
    intro j
    rw [List.getElem?_take, List.getElem?_replicate]
    split
    · rename_i hj; exact zs_false _ j (by omega)
    · rfl
  have ht : (s.L.drop s.i)[z]? = some true := by
    have := zs_true (s.L.drop s.i) (by omega)
    rwa [hz] at this
  have hb : ((s.L.drop (s.i + z)).take (z + 1)).length = z + 1 := by rw [List.length_take, List.length_drop]; omega
  have hd : s.L.drop (s.i + z) = (s.L.drop s.i).drop z := by rw [List.drop_drop]
  have hv := vl_lt ((s.L.drop (s.i + z)).take (z + 1))
  rw [hb] at hv
  have hlo : 2 ^ z ≤ vl ((s.L.drop (s.i + z)).take (z + 1)) := by
    rw [hd, List.drop_eq_getElem_cons (by omega), (List.getElem?_eq_some_iff.1 ht).2, List.take_succ_cons, vl_cons]
    have : ((((s.L.drop s.i).drop (z + 1))).take z).length = z := by rw [List.length_take, List.length_drop]; omega
    rw [this]; simp
  have hp := Nat.two_pow_pos z
  have hV : rcV s + 1 = vl ((s.L.drop (s.i + z)).take (z + 1)) := by rw [e3]; omega
  have hlg : lg (rcV s + 1) = z := by
    rw [hV]
    exact (Nat.log2_eq_iff (by omega)).2 ⟨hlo, hv⟩
  have hnb : nb (rcV s + 1) (z + 1) = (s.L.drop (s.i + z)).take (z + 1) := by
    rw [hV]
    have := nb_vl ((s.L.drop (s.i + z)).take (z + 1))
    rwa [hb] at this
  have hcb : cb (rcV s) = (s.L.drop s.i).take (2 * z + 1) := by
    unfold cb
    rw [hlg, hnb, ← hfalse, hd, show 2 * z + 1 = z + (z + 1) by omega]
    exact List.take_add.symm
  have hcl : (cb (rcV s)).length = 2 * z + 1 := by rw [cb_length, hlg]
  unfold c1
  simp only [e2]
  refine ⟨rfl, by rw [hcl], by show s.i + (2 * z + 1) ≤ s.L.length; omega, ?_, hE0⟩
  simp only
  rw [hcb, ← List.drop_drop, List.take_append_drop]
theorem Took.trans {s s' s'' : Rs} {M N : List Bool} (h : Took s M s') (k : Took s' N s'') : Took s (M ++ N) s'' := by
  obtain ⟨a1, a2, a3, a4, a5⟩ := h
  obtain ⟨b1, b2, b3, b4, b5⟩ := k
  rw [a1] at b1 b3 b4
  exact ⟨b1, by rw [b2, a2, List.length_append]; omega, b3, by rw [a4, b4, List.append_assoc], a5⟩
theorem Took.nil {s : Rs} (hi : s.i ≤ s.L.length) (hE : s.E = 0) : Took s [] s := ⟨rfl, by simp, hi, by simp, hE⟩
theorem rdI_took {s : Rs} {k : Int} (hi : s.i ≤ s.L.length) (h : (rdI s k).s.E = 0) : Took s (if hasI k then cb (rdI s k).v else []) (rdI s k).s := by
  unfold rdI at h ⊢
  cases hh : hasI k with
  | true => rw [hh] at h; simp only [if_true] at h ⊢; exact c1_took hi h
  | false => rw [hh] at h; simp only [Bool.false_eq_true, if_false] at h ⊢; exact Took.nil hi h
theorem rdR_took {s : Rs} {k : Int} (hi : s.i ≤ s.L.length) (h : (rdR s k).s.E = 0) : Took s (if hasR k then nb (rdR s k).v 3 else []) (rdR s k).s := by
  unfold rdR at h ⊢
  cases hh : hasR k with
  | true => rw [hh] at h; simp only [if_true] at h ⊢; exact (g1_took (by decide) hi h).1
  | false => rw [hh] at h; simp only [Bool.false_eq_true, if_false] at h ⊢; exact Took.nil hi h
theorem g1_E {s : Rs} {m : Nat} (h : (g1 s m).s.E = 0) : s.E = 0 := (get_ok0 (s := s) (m := (m : Int)) h).2
theorem rdM_E {s : Rs} {k : Int} (h : (rdM s k).2.2.2.E = 0) : s.E = 0 := by
  unfold rdM at h
  cases hh : hasM k with
  | true => rw [hh] at h; simp only [if_true] at h; exact g1_E (g1_E (g1_E h))
  | false => rw [hh] at h; simpa using h
theorem rdR_E {s : Rs} {k : Int} (h : (rdR s k).s.E = 0) : s.E = 0 := by
  unfold rdR at h
  cases hh : hasR k with
  | true => rw [hh] at h; simp only [if_true] at h; exact g1_E h
  | false => rw [hh] at h; simpa using h
theorem rdI_E {s : Rs} {k : Int} (h : (rdI s k).s.E = 0) : s.E = 0 := by
  unfold rdI at h
  cases hh : hasI k with
  | true =>
    rw [hh] at h
    simp only [if_true] at h
    unfold c1 at h
    by_cases hz : rcE s = 0
    · unfold rcE at hz
      by_cases hE : s.E ≠ 0
      · rw [if_pos hE] at hz; exact hz
      · simpa using hE
    · have : rcS s = ⟨s.L, s.i, rcE s⟩ := if_neg hz
      simp only [this] at h
      exact absurd h hz
  | false => rw [hh] at h; simpa using h
theorem rdM_took {s : Rs} {k : Int} (hi : s.i ≤ s.L.length) (h : (rdM s k).2.2.2.E = 0) : Took s (if hasM k then nb (rdM s k).1 6 ++ (nb (rdM s k).2.1 8 ++ nb (rdM s k).2.2.1 3) else []) (rdM s k).2.2.2 := by
  unfold rdM at h ⊢
  cases hh : hasM k with
  | true =>
    rw [hh] at h
    simp only [if_true] at h ⊢
    have h2 := g1_E h
    have h1 := g1_E h2
    obtain ⟨t1, _⟩ := g1_took (by decide) hi h1
    have t1' := t1
    obtain ⟨a1, _, a3, _⟩ := t1
    obtain ⟨t2, _⟩ := g1_took (s := (g1 s 6).s) (m := 8) (by decide) (by rw [a1]; exact a3) h2
    have t2' := t2
    obtain ⟨b1, _, b3, _⟩ := t2
    obtain ⟨t3, _⟩ := g1_took (s := (g1 (g1 s 6).s 8).s) (m := 3) (by decide) (by rw [b1]; exact b3) h
    exact t1'.trans (t2'.trans t3)
  | false => rw [hh] at h; simp only [Bool.false_eq_true, if_false] at h ⊢; exact Took.nil hi h
theorem Took.fits {s s' : Rs} {M : List Bool} (h : Took s M s') : s'.i ≤ s'.L.length := by
  obtain ⟨a1, _, a3, _⟩ := h
  rw [a1]; exact a3
theorem rdRec_took {s : Rs} (hi : s.i ≤ s.L.length) (h : (rdRec s).2.E = 0) (hr : right (rdRec s).1) : Took s (rb (rdRec s).1) (rdRec s).2 := by
  unfold rdRec at h hr ⊢
  simp only at h hr ⊢
  have h3 := rdM_E h
  have h2 := rdR_E h3
  have h1 := rdI_E h2
  obtain ⟨ta, _⟩ := g1_took (m := 3) (by decide) hi h1
  have tb := rdI_took ta.fits h2
  have tc := rdR_took tb.fits h3
  have td := rdM_took tc.fits h
  have e := ta.trans (tb.trans (tc.trans td))
  generalize (g1 s 3).v = k at *
  generalize (g1 s 3).s = s1 at *
  generalize rdI s1 (k : Int) = b at *
  generalize rdR b.s (k : Int) = c at *
  generalize rdM c.s (k : Int) = d at *
  unfold rb
  have hbi : min b.v 1073741825 = b.v := by
    have := hr.2.2.2.2.1.2
    simp only at this
    omega
  simp only [hbi, Int.toNat_natCast]
  exact e
theorem lay_take {b : Bs} {x : Rc} (h : takeV b = (x, 0)) : right x ∧ pk (rb x) = b ∧ rdRec ⟨up8 b, 0, 0⟩ = (x, (rdRec ⟨up8 b, 0, 0⟩).2) := by
  unfold takeV at h
  split at h
  · cases h
  · rename_i hc
    have h1 : (rdRec ⟨up8 b, 0, 0⟩).1 = x := congrArg Prod.fst h
    have hr : right (rdRec ⟨up8 b, 0, 0⟩).1 := by
      by_cases hr : right (rdRec ⟨up8 b, 0, 0⟩).1
      · exact hr
      · exact absurd (.inr hr) hc
    have he : endV (rdRec ⟨up8 b, 0, 0⟩).2 = 0 := by
      by_cases he : endV (rdRec ⟨up8 b, 0, 0⟩).2 = 0
      · exact he
      · exact absurd (.inl he) hc
    generalize hs : (rdRec ⟨up8 b, 0, 0⟩).2 = s at he
    have hE : s.E = 0 := by
      unfold endV at he
      by_cases hE : s.E ≠ 0
      · rw [if_pos hE] at he; exact he
      · simpa using hE
    have tk := rdRec_took (s := ⟨up8 b, 0, 0⟩) (Nat.zero_le _) (by rw [hs]; exact hE) hr
    rw [hs, h1] at tk
    obtain ⟨t1, t2, t3, t4, _⟩ := tk
    simp only [List.drop_zero] at t1 t2 t3 t4
    rw [h1] at hr
    refine ⟨hr, ?_, by rw [← h1, ← hs]⟩
    unfold endV at he
    rw [if_neg (by simpa using hE)] at he
    by_cases h7 : 7 < s.left
    · rw [if_pos h7] at he; cases he
    rw [if_neg h7] at he
    have hany : ((up8 b).drop s.i).any id = false := by
      rw [t1] at he
      cases e : ((up8 b).drop s.i).any id with
      | false => rfl
      | true => rw [e] at he; cases he
    have hleft : (up8 b).length - s.i ≤ 7 := by
      have : ¬ 7 < ((s.L.length : Int) - (s.i : Int)) := h7
      rw [t1] at this; omega
    have hz : (up8 b).drop s.i = List.replicate ((up8 b).length - s.i) false := by
      rw [List.eq_replicate_iff]
      refine ⟨List.length_drop, fun y hy => ?_⟩
      cases y with
      | false => rfl
      | true =>
        have : ((up8 b).drop s.i).any id = true := by
          rw [List.any_eq_true]; exact ⟨true, hy, rfl⟩
        rw [hany] at this; cases this
    refine up8_inj ?_
    rw [up8_pk]
    rw [hz] at t4
    have hlen := congrArg List.length t4
    rw [List.length_append, List.length_replicate, up8_length] at hlen
    rw [t4]
    congr 2
    rw [up8_length] at hleft ⊢
    omega
/-- A record's bytes, and what stands behind. -/
theorem take_one {x y : Rc} {b : Bs} {rest : List Bool} (hx : right x) (hb : up8 b = rb x ++ rest) (h : takeV b = (y, 0)) : x = y := by
  obtain ⟨h1, h2, h3⟩ := lay_take h
  rw [rdRec_rb hx hb] at h3
  exact congrArg Prod.fst h3
theorem takeV_or (b : Bs) : (∃ x, takeV b = (x, 0)) ∨ takeV b = (rc0, 170) := by
  unfold takeV
  split
  · exact .inr rfl
  · exact .inl ⟨_, rfl⟩
/-- Nothing is taken of a beginning of a record. -/
theorem cut_none {x : Rc} (hx : right x) {m : Nat} (hm : m < (pk (rb x)).length) : takeV ((pk (rb x)).take m) = (rc0, 170) := by
  rcases takeV_or ((pk (rb x)).take m) with ⟨y, h⟩ | h
  · exfalso
    obtain ⟨h1, h2, _⟩ := lay_take h
    have hy := take_lay h1
    rw [h2] at hy
    -- the whole begins with y's bits, too
    have e : up8 (pk (rb x)) = rb y ++ (List.replicate (8 * (((rb y).length + 7) / 8) - (rb y).length) false ++ (up8 (pk (rb x))).drop (8 * m)) := by
      have e1 : up8 ((pk (rb x)).take m) = rb y ++ List.replicate (8 * (((rb y).length + 7) / 8) - (rb y).length) false := by rw [← h2, up8_pk]
      rw [up8_take] at e1
      rw [← List.append_assoc, ← e1, List.take_append_drop]
    have e2 := take_one h1 e (take_lay hx)
    rw [e2] at h2
    have := congrArg List.length h2
    rw [List.length_take] at this
    omega
  · exact h
/-- Nor of one with a byte behind it. -/
theorem behind_none {x : Rc} (hx : right x) (c : UInt8) : takeV (pk (rb x) ++ [c]) = (rc0, 170) := by
  rcases takeV_or (pk (rb x) ++ [c]) with ⟨y, h⟩ | h
  · exfalso
    have e : up8 (pk (rb x) ++ [c]) = rb x ++ (List.replicate (8 * (((rb x).length + 7) / 8) - (rb x).length) false ++ up8 [c]) := by rw [up8_append, up8_pk, List.append_assoc]
    have e2 := take_one hx e h
    obtain ⟨h1, h2, _⟩ := lay_take h
    rw [← e2] at h2
    have := congrArg List.length h2
    simp at this
  · exact h
end Go.Proofs
