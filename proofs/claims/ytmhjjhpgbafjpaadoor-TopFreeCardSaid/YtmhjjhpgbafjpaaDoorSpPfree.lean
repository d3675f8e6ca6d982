/- Ways through time, in plain Lean: how far a search looks. -/
import Derived.Test.YtmhjjhpgbafjpaaDoorSpHfree
set_option linter.unusedVariables false
namespace Go.Proofs
open Go Go.Eng
/-- A number of which P holds, the least. -/
theorem least_ex {P : Nat → Prop} (h : ∃ n, P n) : ∃ n, P n ∧ ∀ m, P m → n ≤ m := by
  obtain ⟨n, hn⟩ := h
  induction n using Nat.strongRecOn with
  | _ n ih =>
    by_cases hx : ∃ m, m < n ∧ P m
    · obtain ⟨m, h1, h2⟩ := hx
      exact ih m h1 h2
    · exact ⟨n, hn, fun m hm => Nat.le_of_not_lt fun h => hx ⟨m, h, hm⟩⟩
open Classical in
noncomputable def mu (P : Nat → Prop) : Nat := if h : ∃ n, P n then Classical.choose (least_ex h) else 0
theorem mu_spec {P : Nat → Prop} (h : ∃ n, P n) : P (mu P) := by
  unfold mu; rw [dif_pos h]; exact (Classical.choose_spec (least_ex h)).1
theorem mu_le {P : Nat → Prop} {n : Nat} (h : P n) : mu P ≤ n := by
  unfold mu; rw [dif_pos ⟨n, h⟩]; exact (Classical.choose_spec (least_ex ⟨n, h⟩)).2 n h
structure RSt where
  S : List En
  nx : Nat
  all : List Sy
  g : Int → List Sy
def pushY (g : Int → List Sy) (st : RSt) (y : Sy) : RSt := if (g y.c).any (kn1 y) then st else { st with S := insE (y.fr, (st.all.length : Int), (st.nx : Int)) st.S, nx := st.nx + 1, all := st.all ++ [y] }
def stepR (f : Fl) (from_ last : Int) (st : RSt) : RSt := match st.S with
  | [] => st
  | e :: S' => match st.all[e.2.1.toNat]? with
    | none => { st with S := S' }
    | some now => if (st.g now.c).any (kn1 now) then { st with S := S' } else
        (beyF f from_ last now).foldl (pushY (updF st.g now.c (st.g now.c ++ [now]))) { st with S := S', g := updF st.g now.c (st.g now.c ++ [now]) }
def runI (from_ start : Int) : RSt := ⟨[(start, 0, 0)], 1, [⟨from_, start, 1048576⟩], fun _ => []⟩
theorem stepR_fix {f : Fl} {from_ last : Int} {st : RSt} (h : st.S = []) : stepR f from_ last st = st := by unfold stepR; rw [h]
/-- How often a cell can be reached still. -/
def pot (start : Int) (l : List Sy) : Nat := match l.getLast? with
  | none => 42
  | some y => (y.fr - start).toNat
def phi (start : Int) (g : Int → List Sy) (n : Nat) : Nat := ((List.range n).map fun c : Nat => pot start (g (c : Int))).sum
theorem phi_succ (start : Int) (g : Int → List Sy) (n : Nat) : phi start g (n + 1) = phi start g n + pot start (g (n : Int)) := by
  unfold phi; rw [List.range_succ, List.map_append, List.sum_append]; simp
theorem phi_same {start : Int} {g : Int → List Sy} {c : Int} {ys : List Sy} : ∀ n : Nat, (n : Int) ≤ c → phi start (updF g c ys) n = phi start g n
  | 0, _ => rfl
  | n + 1, h => by rw [phi_succ, phi_succ, phi_same n (by omega), updF_other _ _ (by omega)]
theorem phi_less {start : Int} {g : Int → List Sy} {c : Int} {ys : List Sy} (hp : pot start ys + 1 ≤ pot start (g c)) (hc : 0 ≤ c) : ∀ n : Nat, c < (n : Int) → phi start (updF g c ys) n + 1 ≤ phi start g n
  | 0, h => by omega
  | n + 1, h => by
    rw [phi_succ, phi_succ]
    by_cases e : c = (n : Int)
    · subst e
      rw [phi_same n (by omega), updF_same]; omega
    · rw [updF_other _ _ (fun h => e h.symm)]
      have := phi_less hp hc n (by omega)
      omega
theorem phi_zero (start : Int) : ∀ n, phi start (fun _ => []) n = 42 * n
  | 0 => rfl
  | n + 1 => by rw [phi_succ, phi_zero start n]; show 42 * n + 42 = _; omega
def MX : Int := 1048576
/-- What a search holds. -/
structure RInv (f : Fl) (from_ start : Int) (st : RSt) : Prop where
  all : ∀ y ∈ st.all, y.to = 1048576 ∧ (0 ≤ y.c ∧ y.c < (f.C.size : Int)) ∧ start ≤ y.fr ∧ y.fr ≤ start + 40
  items : ∀ e ∈ st.S, 0 ≤ e.2.1 ∧ e.2.1 < (st.all.length : Int)
  g : ∀ c, ∀ y ∈ st.g c, y.c = c ∧ y ∈ st.all
  pred : ∀ y ∈ st.all, (y.c = from_ ∧ y.fr = start) ∨ ∃ x ∈ st.g x.c, y.c ∈ nearF f x.c ∧ (x.c = from_ ∨ isF f x.c 2 = true) ∧ x.fr = y.fr - 1
  nx : st.nx + 4 * phi start st.g f.C.size ≤ 1 + 4 * (42 * f.C.size)
  len : st.all.length = st.nx
  gl : ∀ c, (st.g c).length + pot start (st.g c) ≤ 42
theorem RInv.init (f : Fl) {from_ start : Int} (hf : 0 ≤ from_ ∧ from_ < (f.C.size : Int)) : RInv f from_ start (runI from_ start) := by
  refine ⟨fun y hy => ?_, fun e he => ?_, fun c y hy => ?_, fun y hy => ?_, ?_, rfl, fun c => Nat.le_refl _⟩
  · have hy : y ∈ [(⟨from_, start, 1048576⟩ : Sy)] := hy
    rw [List.mem_singleton] at hy; subst hy
    exact ⟨rfl, hf, Int.le_refl _, by dsimp only; omega⟩
  · have he : e ∈ [((start, 0, 0) : En)] := he
    rw [List.mem_singleton] at he; subst he
    exact ⟨Int.le_refl _, by show (0 : Int) < 1; omega⟩
  · cases hy
  · have hy : y ∈ [(⟨from_, start, 1048576⟩ : Sy)] := hy
    rw [List.mem_singleton] at hy; subst hy
    exact .inl ⟨rfl, rfl⟩
  · show 1 + 4 * phi start (fun _ => []) f.C.size ≤ _
    rw [phi_zero]
    omega
def measR (f : Fl) (start : Int) (st : RSt) : Nat := 5 * phi start st.g f.C.size + st.S.length
/-- What holds while the stays behind one are pushed. -/
structure PInv (f : Fl) (from_ start : Int) (st : RSt) (j : Nat) (ph : Nat) : Prop where
  all : ∀ y ∈ st.all, y.to = 1048576 ∧ (0 ≤ y.c ∧ y.c < (f.C.size : Int)) ∧ start ≤ y.fr ∧ y.fr ≤ start + 40
  items : ∀ e ∈ st.S, 0 ≤ e.2.1 ∧ e.2.1 < (st.all.length : Int)
  g : ∀ c, ∀ y ∈ st.g c, y.c = c ∧ y ∈ st.all
  pred : ∀ y ∈ st.all, (y.c = from_ ∧ y.fr = start) ∨ ∃ x ∈ st.g x.c, y.c ∈ nearF f x.c ∧ (x.c = from_ ∨ isF f x.c 2 = true) ∧ x.fr = y.fr - 1
  nx : st.nx ≤ ph + j
  len : st.all.length = st.nx
  gl : ∀ c, (st.g c).length + pot start (st.g c) ≤ 42
theorem PInv.push {f : Fl} {from_ start : Int} {st : RSt} {j ph : Nat} (I : PInv f from_ start st j ph) {y : Sy} (hy : y.to = 1048576 ∧ (0 ≤ y.c ∧ y.c < (f.C.size : Int)) ∧ start ≤ y.fr ∧ y.fr ≤ start + 40)
    (hp : ∃ x ∈ st.g x.c, y.c ∈ nearF f x.c ∧ (x.c = from_ ∨ isF f x.c 2 = true) ∧ x.fr = y.fr - 1) (g : Int → List Sy) : PInv f from_ start (pushY g st y) (j + 1) ph ∧ (pushY g st y).g = st.g ∧ (pushY g st y).S.length ≤ st.S.length + 1 := by
  unfold pushY
  split
  · exact ⟨⟨I.all, I.items, I.g, I.pred, by have := I.nx; omega, I.len, I.gl⟩, rfl, by omega⟩
  · have hl := I.len
    have hn := I.nx
    refine ⟨⟨fun z hz => ?_, fun e he => ?_, fun c z hz => ?_, fun z hz => ?_, by dsimp only; omega, by simp; omega, I.gl⟩, rfl, by rw [insE_len]; exact Nat.le_refl _⟩
    · rcases List.mem_append.1 hz with h | h
      · exact I.all z h
      · rw [List.mem_singleton] at h; subst h; exact hy
    · dsimp only
      rw [List.length_append]
      rcases List.mem_cons.1 ((insE_perm _ _).mem_iff.1 he) with h | h
      · subst h; dsimp only; simp; omega
      · have := I.items e h; simp; omega
    · obtain ⟨h1, h2⟩ := I.g c z hz
      exact ⟨h1, List.mem_append_left _ h2⟩
    · rcases List.mem_append.1 hz with h | h
      · exact I.pred z h
      · rw [List.mem_singleton] at h; subst h; exact .inr hp
theorem bey_mem {f : Fl} {from_ last : Int} {x y : Sy} (h : y ∈ beyF f from_ last x) : y.c ∈ nearF f x.c ∧ y.fr = x.fr + 1 ∧ y.to = 1048576 ∧ y.fr ≤ last ∧ (x.c = from_ ∨ isF f x.c 2 = true) := by
  unfold beyF at h
  split at h
  · cases h
  · rename_i hc
    obtain ⟨c, h1, h2⟩ := List.mem_flatMap.1 h
    unfold bey1 at h2
    split at h2
    · rename_i hb
      rw [List.mem_singleton] at h2
      subst h2
      refine ⟨h1, rfl, rfl, hb.2.2, ?_⟩
      by_cases e : x.c = from_
      · exact .inl e
      · right
        cases hl : isF f x.c 2 with
        | true => rfl
        | false => exact absurd ⟨e, hl⟩ hc
    · cases h2
/-- A stay is noted. -/
theorem RInv.note {f : Fl} {from_ start : Int} {st : RSt} (I : RInv f from_ start st) {e : En} {S' : List En} (hS : st.S = e :: S') {now : Sy} (hn : now ∈ st.all) (hk : (st.g now.c).any (kn1 now) = false) :
    PInv f from_ start { st with S := S', g := updF st.g now.c (st.g now.c ++ [now]) } 0 st.nx ∧ phi start (updF st.g now.c (st.g now.c ++ [now])) f.C.size + 1 ≤ phi start st.g f.C.size := by
  obtain ⟨h1, h2, h3, h4⟩ := I.all now hn
  have hpot : pot start (st.g now.c ++ [now]) + 1 ≤ pot start (st.g now.c) := by
    have e1 : pot start (st.g now.c ++ [now]) = (now.fr - start).toNat := by unfold pot; simp
    rw [e1]
    unfold pot
    cases hg : (st.g now.c).getLast? with
    | none => dsimp only; omega
    | some y =>
      dsimp only
      have hy := List.mem_of_getLast? hg
      have hya := I.all y (I.g _ y hy).2
      have : kn1 now y = false := by simpa using List.any_eq_false.1 hk y hy
      unfold kn1 at this
      have := of_decide_eq_false this
      omega
  refine ⟨⟨I.all, fun e' he => I.items e' (by rw [hS]; exact List.mem_cons_of_mem _ he), fun c y hy => ?_, fun y hy => ?_, Nat.le_refl _, I.len, fun c => ?_⟩, phi_less hpot h2.1 _ h2.2⟩
  · by_cases e : c = now.c
    · subst e
      have hy : y ∈ updF st.g now.c (st.g now.c ++ [now]) now.c := hy
      rw [updF_same] at hy
      rcases List.mem_append.1 hy with h | h
      · exact I.g _ y h
      · rw [List.mem_singleton] at h; subst h; exact ⟨rfl, hn⟩
    · have hy : y ∈ updF st.g now.c (st.g now.c ++ [now]) c := hy
      rw [updF_other _ _ e] at hy
      exact I.g c y hy
  · rcases I.pred y hy with h | ⟨x, hx, h⟩
    · exact .inl h
    · refine .inr ⟨x, ?_, h⟩
      show x ∈ updF st.g now.c (st.g now.c ++ [now]) x.c
      by_cases e : x.c = now.c
      · rw [e, updF_same, ← e]; exact List.mem_append_left _ hx
      · rw [updF_other _ _ e]; exact hx
  · show (updF st.g now.c (st.g now.c ++ [now]) c).length + pot start (updF st.g now.c (st.g now.c ++ [now]) c) ≤ 42
    by_cases e : c = now.c
    · subst e
      rw [updF_same, List.length_append]
      have := I.gl now.c
      simp only [List.length_cons, List.length_nil]
      omega
    · rw [updF_other _ _ e]; exact I.gl c
/-- All the stays behind one. -/
theorem PInv.pushes {f : Fl} {from_ start : Int} {now : Sy} {g : Int → List Sy} (hf : start ≤ now.fr) : ∀ (l : List Sy) {st : RSt} {j ph : Nat}, (∀ y ∈ l, y ∈ beyF f from_ (start + 40) now) → now ∈ st.g now.c → PInv f from_ start st j ph → PInv f from_ start (l.foldl (pushY g) st) (j + l.length) ph ∧ (l.foldl (pushY g) st).g = st.g ∧ (l.foldl (pushY g) st).S.length ≤ st.S.length + l.length
  | [], st, j, ph, _, _, I => ⟨I, rfl, Nat.le_refl _⟩
  | y :: l, st, j, ph, hl, hn, I => by
    obtain ⟨b1, b2, b3, b4, b5⟩ := bey_mem (hl y (by simp))
    obtain ⟨I1, e1, s1⟩ := I.push (y := y) ⟨b3, (near_bound b1).2.2.1, by omega, b4⟩ ⟨now, hn, b1, b5, by omega⟩ g
    obtain ⟨I2, e2, s2⟩ := PInv.pushes hf l (fun z hz => hl z (by simp [hz])) (by rw [e1]; exact hn) I1
    refine ⟨?_, by rw [List.foldl_cons, e2, e1], ?_⟩
    · rw [List.foldl_cons, List.length_cons, show j + (l.length + 1) = j + 1 + l.length by omega]; exact I2
    · rw [List.foldl_cons, List.length_cons]; omega
/-- One step, and all that held holds. -/
theorem RInv.step {f : Fl} {from_ start : Int} {st : RSt} (I : RInv f from_ start st) (hne : st.S ≠ []) : RInv f from_ start (stepR f from_ (start + 40) st) ∧ measR f start (stepR f from_ (start + 40) st) < measR f start st := by
  cases hS : st.S with
  | nil => exact absurd hS hne
  | cons e S' =>
    have hit := I.items e (by rw [hS]; simp)
    have hget : st.all[e.2.1.toNat]? = some st.all[e.2.1.toNat] := List.getElem?_eq_getElem (by omega)
    have hmem : st.all[e.2.1.toNat] ∈ st.all := List.getElem_mem _
    unfold stepR
    rw [hS]
    dsimp only
    rw [hget]
    dsimp only
    generalize st.all[e.2.1.toNat] = now at hmem
    split
    · refine ⟨⟨I.all, fun e' he => I.items e' (by rw [hS]; exact List.mem_cons_of_mem _ he), I.g, I.pred, I.nx, I.len, I.gl⟩, ?_⟩
      simp only [measR, hS, List.length_cons]
      omega
    · rename_i hk
      have hk' : (st.g now.c).any (kn1 now) = false := by simpa using hk
      obtain ⟨P0, hph⟩ := I.note hS hmem hk'
      have hnow := I.all now hmem
      have hb4 := bey_len f from_ (start + 40) now
      obtain ⟨P1, eg, sl⟩ := P0.pushes (now := now) (g := updF st.g now.c (st.g now.c ++ [now])) hnow.2.2.1 (beyF f from_ (start + 40) now) (fun _ h => h) (by show now ∈ updF st.g now.c (st.g now.c ++ [now]) now.c; rw [updF_same]; simp)
      have hnx := P1.nx
      have hI := I.nx
      refine ⟨⟨P1.all, P1.items, P1.g, P1.pred, ?_, P1.len, P1.gl⟩, ?_⟩
      · rw [eg]; dsimp only; omega
      · simp only [measR]
        rw [eg, hS, List.length_cons]
        dsimp only at sl ⊢
        omega
/-- What is reached in the end. -/
def runF (f : Fl) (from_ start : Int) : Int → List Sy := (itr (stepR f from_ (start + 40)) (5 * (42 * f.C.size) + 1) (runI from_ start)).g
theorem run_end {f : Fl} {from_ start : Int} {k : Nat} {st : RSt} (hk : st = itr (stepR f from_ (start + 40)) k (runI from_ start)) (hb : k + measR f start st ≤ 5 * (42 * f.C.size) + 1) (he : st.S = []) : st.g = runF f from_ start := by
  unfold runF
  have e : 5 * (42 * f.C.size) + 1 = k + (5 * (42 * f.C.size) + 1 - k) := by omega
  rw [e, itr_add, ← hk, itr_fix (stepR_fix he)]
theorem RInv.atk {f : Fl} {from_ start : Int} (hf : 0 ≤ from_ ∧ from_ < (f.C.size : Int)) : ∀ k, RInv f from_ start (itr (stepR f from_ (start + 40)) k (runI from_ start))
  | 0 => RInv.init f hf
  | k + 1 => by
    rw [itr_succ]
    have h := RInv.atk (start := start) hf k
    by_cases e : (itr (stepR f from_ (start + 40)) k (runI from_ start)).S = []
    · rw [stepR_fix e]; exact h
    · exact (h.step e).1
/-- What is reached: within the time that is looked ahead, each out of one before. -/
theorem runF_inv {f : Fl} {from_ start : Int} (hf : 0 ≤ from_ ∧ from_ < (f.C.size : Int)) : ∃ st, RInv f from_ start st ∧ st.g = runF f from_ start := ⟨_, RInv.atk hf _, rfl⟩
end Go.Proofs
