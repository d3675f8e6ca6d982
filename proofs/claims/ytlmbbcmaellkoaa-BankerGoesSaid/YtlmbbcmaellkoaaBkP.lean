/- Claims: what is safe, and the order that is found, without a program. -/
set_option linter.unusedVariables false
namespace Go.Eng
abbrev Cm := List Int × List Int
def disj (a b : List Int) : Bool := a.all fun z => !b.contains z
theorem disj_iff {a b : List Int} : disj a b = true ↔ ∀ z ∈ a, z ∉ b := by
  unfold disj
  rw [List.all_eq_true]
  constructor
  · intro h z hz hb
    have := h z hz
    simp [hb] at this
  · intro h z hz
    simp [h z hz]
theorem disj_comm (a b : List Int) : disj a b = disj b a := by
  rw [Bool.eq_iff_iff, disj_iff, disj_iff]
  exact ⟨fun h z hz hb => h z hb hz, fun h z hz hb => h z hb hz⟩
theorem disj_append (a b c : List Int) : disj a (b ++ c) = (disj a b && disj a c) := by
  rw [Bool.eq_iff_iff, Bool.and_eq_true, disj_iff, disj_iff, disj_iff]
  constructor
  · exact fun h => ⟨fun z hz hb => h z hz (by simp [hb]), fun z hz hb => h z hz (by simp [hb])⟩
  · rintro ⟨h1, h2⟩ z hz hb
    rcases List.mem_append.1 hb with hb | hb
    · exact h1 z hz hb
    · exact h2 z hz hb
theorem disj_nil (a : List Int) : disj a [] = true := disj_iff.2 fun z _ h => by cases h
theorem disj_mono {a a' b b' : List Int} (ha : ∀ z ∈ a', z ∈ a) (hb : ∀ z ∈ b', z ∈ b) (h : disj a b = true) : disj a' b' = true :=
  disj_iff.2 fun z hz hb' => disj_iff.1 h z (ha z hz) (hb z hb')
def free (a : Cm) (l : List Cm) : Prop := ∀ b ∈ l, disj a.2 b.1 = true
theorem free_perm {a : Cm} {l l' : List Cm} (h : free a l) (p : l.Perm l') : free a l' := fun b hb => h b (p.mem_iff.2 hb)
inductive Safe : List Cm → Prop
  | nil : Safe []
  | cons {l l2 : List Cm} {a : Cm} : l.Perm (a :: l2) → free a l2 → Safe l2 → Safe l
theorem Safe.perm {l l' : List Cm} (h : Safe l) (p : l.Perm l') : Safe l' := by
  cases h with
  | nil => rw [List.nil_perm.1 p]; exact .nil
  | cons q f s => exact .cons (p.symm.trans q) f s
theorem safe_perm {l l' : List Cm} (p : l.Perm l') : Safe l ↔ Safe l' := ⟨fun h => h.perm p, fun h => h.perm p.symm⟩
theorem perm_two {a b : Cm} {l2 r : List Cm} (p : (a :: l2).Perm (b :: r)) : (a = b ∧ l2.Perm r) ∨ ∃ l3, l2.Perm (b :: l3) ∧ r.Perm (a :: l3) := by
  by_cases e : a = b
  · subst e
    exact .inl ⟨rfl, p.cons_inv⟩
  · right
    have hb : b ∈ l2 := by
      have : b ∈ a :: l2 := p.mem_iff.2 (by simp)
      rcases List.mem_cons.1 this with h | h
      · exact absurd h.symm e
      · exact h
    refine ⟨l2.erase b, List.perm_cons_erase hb, ?_⟩
    have h1 : (b :: r).Perm (b :: (a :: l2.erase b)) := p.symm.trans (((List.perm_cons_erase hb).cons a).trans (List.Perm.swap _ _ _))
    exact h1.cons_inv
/-- What is safe stays safe, when one is gone .. -/
theorem Safe.gone {l : List Cm} (h : Safe l) : ∀ {b : Cm} {r : List Cm}, l.Perm (b :: r) → Safe r := by
  induction h with
  | nil => intro b r p; exact absurd p.length_eq (by simp)
  | cons q f s ih =>
    intro b r p
    rcases perm_two (q.symm.trans p) with ⟨_, h⟩ | ⟨l3, h1, h2⟩
    · exact s.perm h
    · exact .cons h2 (fun c hc => f c (h1.mem_iff.2 (by simp [hc]))) (ih h1)
/-- .. or lets go, or needs less. -/
theorem Safe.less {l : List Cm} (h : Safe l) : ∀ {b b' : Cm} {r : List Cm}, l.Perm (b :: r) → (∀ z ∈ b'.1, z ∈ b.1) → (∀ z ∈ b'.2, z ∈ b.2) → Safe (b' :: r) := by
  induction h with
  | nil => intro b b' r p; exact absurd p.length_eq (by simp)
  | @cons l l2 a q f s ih =>
    intro b b' r p h1 h2
    rcases perm_two (q.symm.trans p) with ⟨e, h⟩ | ⟨l3, h3, h4⟩
    · subst e
      exact .cons (List.Perm.refl _) (fun c hc => disj_mono h2 (fun z h => h) (f c (h.mem_iff.2 hc))) (s.perm h)
    · refine .cons (l2 := b' :: l3) (a := a) ((h4.cons b').trans (List.Perm.swap _ _ _)) (fun c hc => ?_) (ih h3 h1 h2)
      rcases List.mem_cons.1 hc with rfl | hc
      · exact disj_mono (fun z h => h) h1 (f b (h3.mem_iff.2 (by simp)))
      · exact f c (h3.mem_iff.2 (by simp [hc]))
/-- One that needs nothing that others hold can be the first. -/
theorem safe_first {l r : List Cm} {a : Cm} (p : l.Perm (a :: r)) (f : free a r) : Safe l ↔ Safe r := ⟨fun h => h.gone p, fun h => .cons p f h⟩
theorem safe_one (a : Cm) : Safe [a] := .cons (List.Perm.refl _) (fun b hb => by cases hb) .nil
/-! ### The order that is found -/
def g (l : List Cm) (i : Nat) : Cm := (l[i]?).getD ([], [])
def rest (l : List Cm) (out : List Nat) : List Cm := ((List.range l.length).filter fun k => !out.contains k).map (g l)
def canB (l : List Cm) (out : List Nat) (i : Nat) : Bool := !out.contains i && (List.range l.length).all fun k => (k == i) || out.contains k || disj (g l i).2 (g l k).1
def pick (l : List Cm) (out : List Nat) : Option Nat := (List.range l.length).find? (canB l out)
def gr (l : List Cm) : Nat → List Nat → Option (List Nat)
  | 0, out => some out
  | f + 1, out => match pick l out with
    | none => none
    | some i => gr l f (out ++ [i])
def ord (l : List Cm) : Option (List Nat) := gr l l.length []
theorem rest_nil (l : List Cm) : rest l [] = l := by
  unfold rest
  apply List.ext_getElem?
  intro i
  have : (List.range l.length).filter (fun k => !([] : List Nat).contains k) = List.range l.length := by
    rw [List.filter_eq_self]; intro a _; simp
  rw [this, List.getElem?_map]
  by_cases h : i < l.length
  · rw [List.getElem?_range h, List.getElem?_eq_getElem h]
    simp [g, h]
  · rw [List.getElem?_eq_none (by simpa using h), List.getElem?_eq_none (by omega)]; rfl
theorem rest_cons (l : List Cm) {out : List Nat} {i : Nat} (hi : i < l.length) (ho : i ∉ out) : (rest l out).Perm (g l i :: rest l (out ++ [i])) := by
  unfold rest
  have hm : i ∈ (List.range l.length).filter fun k => !out.contains k := by
    rw [List.mem_filter]; exact ⟨List.mem_range.2 hi, by simp [ho]⟩
  have hn : ((List.range l.length).filter fun k => !out.contains k).Nodup := List.Pairwise.filter _ List.nodup_range
  have e : ((List.range l.length).filter fun k => !(out ++ [i]).contains k) = ((List.range l.length).filter fun k => !out.contains k).erase i := by
    rw [hn.erase_eq_filter, List.filter_filter]
    congr 1
    funext k
    by_cases h1 : k ∈ out <;> by_cases h2 : k = i <;> simp [h1, h2]
  rw [e, ← List.map_cons]
  exact (List.perm_cons_erase hm).map _
theorem mem_rest {l : List Cm} {out : List Nat} {a : Cm} (h : a ∈ rest l out) : ∃ i, i < l.length ∧ i ∉ out ∧ g l i = a := by
  unfold rest at h
  obtain ⟨i, hi, rfl⟩ := List.mem_map.1 h
  rw [List.mem_filter] at hi
  exact ⟨i, List.mem_range.1 hi.1, by simpa using hi.2, rfl⟩
theorem canB_iff {l : List Cm} {out : List Nat} {i : Nat} : canB l out i = true ↔ i ∉ out ∧ free (g l i) (rest l (out ++ [i])) := by
  unfold canB
  rw [Bool.and_eq_true, List.all_eq_true]
  constructor
  · rintro ⟨h1, h2⟩
    refine ⟨by simpa using h1, fun b hb => ?_⟩
    obtain ⟨k, hk, hko, rfl⟩ := mem_rest hb
    have := h2 k (List.mem_range.2 hk)
    simp at hko
    simp [hko] at this
    exact this
  · rintro ⟨h1, h2⟩
    refine ⟨by simp [h1], fun k hk => ?_⟩
    by_cases e1 : k = i
    · simp [e1]
    · by_cases e2 : k ∈ out
      · simp [e2]
      · have : g l k ∈ rest l (out ++ [i]) := by
          unfold rest
          refine List.mem_map.2 ⟨k, ?_, rfl⟩
          rw [List.mem_filter]
          exact ⟨hk, by simp [e1, e2]⟩
        rw [h2 _ this]; simp
theorem pick_some {l : List Cm} {out : List Nat} {i : Nat} (h : pick l out = some i) : i < l.length ∧ canB l out i = true := by
  unfold pick at h
  exact ⟨List.mem_range.1 (List.mem_of_find?_eq_some h), List.find?_some h⟩
theorem gr_safe {l : List Cm} : ∀ {f : Nat} {out : List Nat}, (rest l out).length = f → ((gr l f out).isSome = true ↔ Safe (rest l out))
  | 0, out, h => by
    rw [List.eq_nil_of_length_eq_zero h]
    exact ⟨fun _ => .nil, fun _ => rfl⟩
  | f + 1, out, h => by
    unfold gr
    cases hp : pick l out with
    | none =>
      simp only [Option.isSome_none, Bool.false_eq_true, false_iff]
      intro hs
      generalize hr : rest l out = rl at hs
      cases hs with
      | nil => rw [hr] at h; simp at h
      | @cons _ l2 a q fr s =>
        have hm : a ∈ rest l out := by rw [hr]; exact q.mem_iff.2 (by simp)
        obtain ⟨i, hi, ho, rfl⟩ := mem_rest hm
        have p1 := rest_cons l hi ho
        have p2 : l2.Perm (rest l (out ++ [i])) := by
          rw [hr] at p1
          exact (q.symm.trans p1).cons_inv
        have hc := canB_iff.2 ⟨ho, free_perm fr p2⟩
        unfold pick at hp
        rw [List.find?_eq_none] at hp
        exact hp i (List.mem_range.2 hi) hc
    | some i =>
      obtain ⟨hi, hc⟩ := pick_some hp
      obtain ⟨ho, hf⟩ := canB_iff.1 hc
      have p1 := rest_cons l hi ho
      have hl := p1.length_eq
      rw [List.length_cons] at hl
      simp only
      rw [gr_safe (by omega), safe_first p1 hf]
theorem ord_safe (l : List Cm) : (ord l).isSome = true ↔ Safe l := by
  have h := gr_safe (l := l) (out := []) (f := l.length) (by rw [rest_nil])
  rw [rest_nil] at h
  exact h
theorem gr_prefix {l : List Cm} : ∀ {f : Nat} {out r : List Nat}, gr l f out = some r → ∃ t, r = out ++ t ∧ t.length = f
  | 0, out, r, h => by
    simp only [gr, Option.some.injEq] at h
    exact ⟨[], by simp [h], rfl⟩
  | f + 1, out, r, h => by
    unfold gr at h
    cases hp : pick l out with
    | none => rw [hp] at h; cases h
    | some i =>
      rw [hp] at h
      obtain ⟨t, ht, hl⟩ := gr_prefix h
      exact ⟨i :: t, by rw [ht]; simp, by rw [List.length_cons, hl]⟩
/-- What is told of an order. -/
def Told (l : List Cm) (out : List Nat) : Prop :=
  out.Nodup ∧ (∀ a ∈ out, a < l.length) ∧ out.Pairwise (fun a b => disj (g l a).2 (g l b).1 = true) ∧ ∀ a ∈ out, ∀ k, k < l.length → k ∉ out → disj (g l a).2 (g l k).1 = true
theorem gr_told {l : List Cm} : ∀ {f : Nat} {out r : List Nat}, Told l out → gr l f out = some r → Told l r
  | 0, out, r, ht, h => by
    simp only [gr, Option.some.injEq] at h
    rw [← h]; exact ht
  | f + 1, out, r, ⟨t1, t2, t3, t4⟩, h => by
    unfold gr at h
    cases hp : pick l out with
    | none => rw [hp] at h; cases h
    | some i =>
      rw [hp] at h
      obtain ⟨hi, hc⟩ := pick_some hp
      have hno := (canB_iff.1 hc).1
      refine gr_told ⟨?_, ?_, ?_, ?_⟩ h
      · rw [List.nodup_append]
        exact ⟨t1, by simp, fun a ha b hb => by rw [List.mem_singleton] at hb; subst hb; exact fun e => hno (e ▸ ha)⟩
      · intro a ha
        rcases List.mem_append.1 ha with ha | ha
        · exact t2 a ha
        · rw [List.mem_singleton] at ha; subst ha; exact hi
      · exact List.pairwise_append.2 ⟨t3, List.pairwise_singleton _ _, fun a ha b hb => by rw [List.mem_singleton] at hb; subst hb; exact t4 a ha _ hi hno⟩
      · intro a ha k hk hko
        have hko' : k ∉ out ∧ k ≠ i := by simpa [not_or] using hko
        rcases List.mem_append.1 ha with ha | ha
        · exact t4 a ha k hk hko'.1
        · rw [List.mem_singleton] at ha
          subst ha
          unfold canB at hc
          rw [Bool.and_eq_true, List.all_eq_true] at hc
          have := hc.2 k (List.mem_range.2 hk)
          simpa [hko'] using this
theorem ord_told {l : List Cm} {r : List Nat} (h : ord l = some r) : Told l r ∧ r.length = l.length := by
  obtain ⟨t, ht, hl⟩ := gr_prefix h
  exact ⟨gr_told ⟨List.nodup_nil, by simp, List.Pairwise.nil, by simp⟩ h, by rw [ht]; simpa using hl⟩
/-! ### .. is that of trying all -/
def canR (l : List Cm) (left : List Bool) (i : Nat) : Bool := (List.range l.length).all fun k => !((left[k]?).getD false) || (k == i) || disj (g l i).2 (g l k).1
def dfs (l : List Cm) : Nat → List Bool → Option (List Nat)
  | 0, left => some []
  | f + 1, left => (List.range l.length).findSome? fun i => if (left[i]?).getD false && canR l left i then (dfs l f (left.set i false)).map (i :: ·) else none
def Left (l : List Cm) (out : List Nat) (left : List Bool) : Prop := left.length = l.length ∧ ∀ k, k < l.length → (left[k]?).getD false = !out.contains k
theorem can_eq {l : List Cm} {out : List Nat} {left : List Bool} (h : Left l out left) {i : Nat} (hi : i < l.length) : ((left[i]?).getD false && canR l left i) = canB l out i := by
  unfold canR canB
  rw [h.2 i hi]
  congr 1
  rw [Bool.eq_iff_iff, List.all_eq_true, List.all_eq_true]
  have : ∀ k ∈ List.range l.length, (!((left[k]?).getD false) || (k == i) || disj (g l i).2 (g l k).1) = ((k == i) || out.contains k || disj (g l i).2 (g l k).1) := by
    intro k hk
    rw [h.2 k (List.mem_range.1 hk), Bool.not_not, Bool.or_comm (out.contains k)]
  exact ⟨fun h k hk => by rw [← this k hk]; exact h k hk, fun h k hk => by rw [this k hk]; exact h k hk⟩
theorem left_set {l : List Cm} {out : List Nat} {left : List Bool} (h : Left l out left) {i : Nat} (hi : i < l.length) : Left l (out ++ [i]) (left.set i false) := by
  refine ⟨by rw [List.length_set]; exact h.1, fun k hk => ?_⟩
  rw [List.getElem?_set]
  by_cases e : i = k
  · subst e
    rw [if_pos rfl, if_pos (by rw [h.1]; exact hi)]
    simp
  · rw [if_neg e, h.2 k hk]
    have : ¬ k = i := fun h => e h.symm
    simp [this]
theorem findSome_at {α β : Type} {p : α → Bool} {f : α → Option β} {a : α} {y : β} : ∀ {l : List α}, l.find? p = some a → (∀ x ∈ l, p x = false → f x = none) → f a = some y → l.findSome? f = some y
  | [], h, _, _ => by cases h
  | x :: l, h, hn, hy => by
    rw [List.find?_cons] at h
    cases hp : p x with
    | true =>
      rw [hp] at h
      simp only [Option.some.injEq] at h
      subst h
      rw [List.findSome?_cons, hy]
    | false =>
      rw [hp] at h
      rw [List.findSome?_cons, hn x (by simp) hp]
      exact findSome_at h (fun z hz => hn z (by simp [hz])) hy
theorem dfs_eq {l : List Cm} : ∀ {f : Nat} {out : List Nat} {left : List Bool}, (rest l out).length = f → Left l out left → dfs l f left = (gr l f out).map (·.drop out.length)
  | 0, out, left, _, _ => by simp [dfs, gr]
  | f + 1, out, left, hlen, hl => by
    have step : ∀ i, i < l.length → canB l out i = true → dfs l f (left.set i false) = (gr l f (out ++ [i])).map (·.drop (out.length + 1)) := fun i hi hc => by
      have p1 := (rest_cons l hi (canB_iff.1 hc).1).length_eq
      rw [List.length_cons] at p1
      have := dfs_eq (f := f) (by omega) (left_set hl hi)
      simpa using this
    have lenI : ∀ i, i < l.length → canB l out i = true → (rest l (out ++ [i])).length = f := fun i hi hc => by
      have p1 := (rest_cons l hi (canB_iff.1 hc).1).length_eq
      rw [List.length_cons] at p1
      omega
    have safeI : ∀ i, i < l.length → canB l out i = true → ((gr l f (out ++ [i])).isSome = true ↔ Safe (rest l out)) := fun i hi hc => by
      obtain ⟨h1, h2⟩ := canB_iff.1 hc
      rw [gr_safe (lenI i hi hc), safe_first (rest_cons l hi h1) h2]
    unfold dfs gr
    cases hp : pick l out with
    | none =>
      simp only [Option.map_none]
      rw [List.findSome?_eq_none_iff]
      intro i hi
      have hi' := List.mem_range.1 hi
      rw [can_eq hl hi']
      unfold pick at hp
      rw [List.find?_eq_none] at hp
      have := hp i hi
      simp [this]
    | some i0 =>
      obtain ⟨hi0, hc0⟩ := pick_some hp
      simp only
      cases hg : gr l f (out ++ [i0]) with
      | none =>
        simp only [Option.map_none]
        rw [List.findSome?_eq_none_iff]
        intro i hi
        have hi' := List.mem_range.1 hi
        rw [can_eq hl hi']
        cases hc : canB l out i with
        | false => simp
        | true =>
          have : gr l f (out ++ [i]) = none := by
            cases hgi : gr l f (out ++ [i]) with
            | none => rfl
            | some r =>
              have h1 := (safeI i hi' hc).1 (by rw [hgi]; rfl)
              have h2 := (safeI i0 hi0 hc0).2 h1
              rw [hg] at h2; cases h2
          rw [step i hi' hc, this]; simp
      | some r =>
        obtain ⟨t, ht, _⟩ := gr_prefix hg
        have e1 : (some r : Option (List Nat)).map (·.drop out.length) = some (i0 :: t) := by
          rw [ht]; simp
        rw [e1]
        refine findSome_at hp (fun i hi hc => ?_) ?_
        · rw [can_eq hl (List.mem_range.1 hi), hc]; simp
        · rw [can_eq hl hi0, hc0, step i0 hi0 hc0, hg, ht]
          simp
theorem dfs_ord (l : List Cm) : dfs l l.length (List.replicate l.length true) = ord l := by
  have := dfs_eq (l := l) (f := l.length) (out := []) (left := List.replicate l.length true) (by rw [rest_nil]) ⟨by simp, fun k hk => by simp [hk]⟩
  rw [this]
  unfold ord
  cases gr l l.length [] <;> simp
/-! ### Which claims are right -/
def okZ (l : List Int) : Bool := l.all fun z => decide (0 ≤ z) && decide (z < 26)
theorem okZ_iff {l : List Int} : okZ l = true ↔ ∀ z ∈ l, 0 ≤ z ∧ z < 26 := by
  unfold okZ
  rw [List.all_eq_true]
  exact ⟨fun h z hz => by simpa using h z hz, fun h z hz => by simpa using h z hz⟩
def Rt (l : List Cm) : Prop := (∀ c ∈ l, okZ c.1 = true ∧ okZ c.2 = true) ∧ l.Pairwise fun a b => disj b.1 a.1 = true
theorem Rt.snoc {l : List Cm} {c : Cm} : Rt (l ++ [c]) ↔ Rt l ∧ okZ c.1 = true ∧ okZ c.2 = true ∧ ∀ a ∈ l, disj c.1 a.1 = true := by
  unfold Rt
  rw [List.pairwise_append]
  constructor
  · rintro ⟨h1, h2, _, h4⟩
    exact ⟨⟨fun c hc => h1 c (by simp [hc]), h2⟩, (h1 c (by simp)).1, (h1 c (by simp)).2, fun a ha => h4 a ha c (by simp)⟩
  · rintro ⟨⟨h1, h2⟩, h3, h4, h5⟩
    refine ⟨fun d hd => ?_, h2, List.pairwise_singleton _ _, fun a ha b hb => by rw [List.mem_singleton] at hb; subst hb; exact h5 a ha⟩
    rcases List.mem_append.1 hd with hd | hd
    · exact h1 d hd
    · rw [List.mem_singleton] at hd; subst hd; exact ⟨h3, h4⟩
theorem Rt.prefix {a b : List Cm} (h : Rt (a ++ b)) : Rt a := ⟨fun c hc => h.1 c (by simp [hc]), (List.pairwise_append.1 h.2).1⟩
theorem Rt.perm {l l' : List Cm} (h : Rt l) (p : l.Perm l') : Rt l' :=
  ⟨fun c hc => h.1 c (p.mem_iff.2 hc), p.pairwise h.2 fun {a b} hab => by rw [disj_comm]; exact hab⟩
theorem Rt.sub {l l' : List Cm} (h : Rt l) (s : l'.Sublist l) : Rt l' := ⟨fun c hc => h.1 c (s.subset hc), h.2.sublist s⟩
open Classical in
noncomputable def rightB (l : List Cm) : Bool := decide (l.length ≤ 8 ∧ Rt l)
open Classical in
theorem rightB_iff {l : List Cm} : rightB l = true ↔ l.length ≤ 8 ∧ Rt l := by unfold rightB; rw [decide_eq_true_iff]
theorem rightB_of {l : List Cm} {b : Bool} (h : b = true ↔ l.length ≤ 8 ∧ Rt l) : b = rightB l := by
  rw [Bool.eq_iff_iff, rightB_iff]; exact h
/-- The order that is told: none, if the claims are not right. -/
noncomputable def OrdC (l : List Cm) : Option (List Nat) := if rightB l then ord l else none
noncomputable def safeB (l : List Cm) : Bool := (OrdC l).isSome
theorem safeB_iff {l : List Cm} : safeB l = true ↔ rightB l = true ∧ Safe l := by
  unfold safeB OrdC
  split
  · rename_i h; rw [ord_safe]; simp [h]
  · rename_i h; simp [h]
end Go.Eng
